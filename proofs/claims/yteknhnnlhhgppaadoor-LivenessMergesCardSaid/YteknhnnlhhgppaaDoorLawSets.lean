/-
  LivenessSets (package ontimelaw19): the sets, and the registers that are live at each point, are those of the reference.
-/
import Derived.Test.YteknhnnlhhgppaaDoorLiveAt
import Derived.Test.YteknhnnlhhgppaaDoorMg44
import Derived.Deep.RegionHeld3
namespace Go.Proofs.YteknhnnlhhgppaaDoor
set_option linter.unusedVariables false
set_option linter.unusedSimpArgs false
open Go.RowKit
set_option maxRecDepth 100000
set_option maxHeartbeats 16000000

/-- the boxes of the law: the function, the sets, the plain function -/
structure SetBox (f : Fn) (aa ba pa : Option Addr) (ac bc pc R n fb sb mb : Nat) (iv ov : Value) (w : World) : Prop where
  fbox : w.heap[fb]? = some (.cells #[.string f.name, .int .i64 (R : Int), .slice aa f.arrays.length ac, .slice ba n bc] 25)
  sbox : w.heap[sb]? = some (.cells #[iv, ov] 30)
  mbox : w.heap[mb]? = some (.cells #[.string f.name, .int .i64 (R : Int), .slice aa f.arrays.length ac, .slice pa n pc] 36)
theorem SetBox.keep {f : Fn} {aa ba pa : Option Addr} {ac bc pc R n fb sb mb : Nat} {iv ov : Value} {w w' : World} (h : SetBox f aa ba pa ac bc pc R n fb sb mb iv ov w) (hB : Below w.heap.size w w') : SetBox f aa ba pa ac bc pc R n fb sb mb iv ov w' :=
  ⟨(hB.block _ (lt_heap h.fbox)).trans h.fbox, (hB.block _ (lt_heap h.sbox)).trans h.sbox, (hB.block _ (lt_heap h.mbox)).trans h.mbox⟩
/-- the point's answer -/
theorem sets1_any (f : Fn) (aa ba pa : Option Addr) (ac bc pc R n fb sb mb B k at_ : Nat) (b : Blk) (ia oa : Option Addr) (ic oc on : Nat) (rout : List (Value × List Int)) (u : Value) (ins outs : List Nat) (w : World)
    (hfn : FnAt w f aa ba) (hpn : FnAt w f aa pa) (hF : FormF f) (hreg : f.regs = (R : Int)) (hR : R ≤ 12) (hn : f.blocks.length = n) (hbl : n ≤ 1000) (hcl : ∀ b ∈ f.blocks, b.code.length ≤ 1000000) (hT : TabAt 0 Lib.deBruijn64tab w)
    (hbox : SetBox f aa ba pa ac bc pc R n fb sb mb (.slice ia n ic) (.slice oa n oc) w) (hro : IRows B w (.slice oa n oc) rout) (hrl : rout.length = n) (hsol : Sol f R ins outs) (hrm : rout.map (·.2) = outs.map listB)
    (hb : f.blocks[k]? = some b) (hat : at_ ≤ b.code.length) :
    Calls Tryd.prog 19 #[.int .i64 (k : Int), .int .i64 (at_ : Int), .pointer (some ⟨fb, 0, none⟩), .pointer (some ⟨sb, 0, none⟩), .pointer (some ⟨mb, 0, none⟩)] w fun e w' => e = .returned (.bool true) ∧ Below w.heap.size w w' := by
  have hFR : FormR f R := by
    have := hF.small (by omega)
    rwa [hreg, Int.toNat_natCast] at this
  have hkn : k < n := by have := (List.getElem?_eq_some_iff.1 hb).1; omega
  obtain ⟨o, ho⟩ : ∃ o, outs.getD k 0 = o := ⟨_, rfl⟩
  have hol : outs.length = n := by rw [hsol.lo, hn]
  have hou : rout[k]? = some ((rout.getD k (.bool false, [])).1, listB o) := by
    have h1 : (rout.map (·.2))[k]? = some (listB o) := by
      rw [hrm, List.getElem?_map, List.getElem?_eq_getElem (by omega)]
      rw [getD_at _ _ (by omega)] at ho
      rw [ho]
      rfl
    rw [List.getElem?_map] at h1
    obtain ⟨p, hp, hp2⟩ := Option.map_eq_some_iff.1 h1
    rw [List.getD_eq_getElem?_getD, hp]
    show some p = some (p.1, listB o)
    rw [← hp2]
  have ho2 : o < 2 ^ R := by rw [← ho]; exact hsol.bo k
  have QB : Hid (∀ w', Below w.heap.size w w' → Calls Tryd.prog 15 #[.agg #[.string f.name, .int .i64 (R : Int), .slice aa f.arrays.length ac, .slice ba n bc], .agg #[.slice ia n ic, .slice oa n oc], .int .i64 (k : Int), .int .i64 (at_ : Int)] w' fun e w'' => ∃ v, e = .returned v ∧ IntsAt w'' v (listB (blkB b at_ o)) ∧ Below w'.heap.size w' w'') := fun w' h => by
    have h9 := before_any f R aa ba ac bc (.slice ia n ic) (.slice oa n oc) B o k at_ b rout _ w' (hfn.below h) hF hreg hR (by omega) hcl (tab_keep hT h) ⟨_, _, _, rfl⟩ (hro.keep h) (by omega) hb hat hou ho2
    rw [hreg, hn] at h9
    exact h9.mono fun e w'' ⟨v, h1, h2, h3⟩ => ⟨v, h1, h2.at_, h3⟩
  have QA : Hid (∀ w', Below w.heap.size w w' → Calls Tryd.prog 17 #[.agg #[.string f.name, .int .i64 (R : Int), .slice aa f.arrays.length ac, .slice pa n pc], .int .i64 (k : Int), .int .i64 (at_ : Int)] w' fun e w'' => ∃ v, e = .returned v ∧ IntsAt w'' v (listB (blkB b at_ o)) ∧ Below w'.heap.size w' w'') := fun w' h => by
    have h9 := at_any f aa pa ac pc R k at_ o b w' (hpn.below h) (by omega) hb hcl (by omega) hFR ho2 (fun r hr => by rw [← ho]; exact hsol.leaves hFR hb hr)
    rw [hreg, hn] at h9
    have e9 : pointB b at_ o = blkB b at_ o := by unfold pointB; rw [if_pos hat]
    rw [e9] at h9
    exact h9.mono fun e w'' ⟨v, h1, h2, h3⟩ => ⟨v, h1, h2.at_, h3⟩
  have HKC : Hid (∀ w', Below w.heap.size w w' → (w'.cell? ⟨fb, 0, none⟩ = some (.string f.name) ∧ w'.cell? ⟨fb, 1, none⟩ = some (.int .i64 (R : Int)) ∧ w'.cell? ⟨fb, 2, none⟩ = some (.slice aa f.arrays.length ac) ∧ w'.cell? ⟨fb, 3, none⟩ = some (.slice ba n bc) ∧
      w'.cell? ⟨sb, 0, none⟩ = some (.slice ia n ic) ∧ w'.cell? ⟨sb, 1, none⟩ = some (.slice oa n oc) ∧
      w'.cell? ⟨mb, 0, none⟩ = some (.string f.name) ∧ w'.cell? ⟨mb, 1, none⟩ = some (.int .i64 (R : Int)) ∧ w'.cell? ⟨mb, 2, none⟩ = some (.slice aa f.arrays.length ac) ∧ w'.cell? ⟨mb, 3, none⟩ = some (.slice pa n pc) ∧ Below w.heap.size w w')) := fun w' h => by
    have h1 := hbox.keep h
    obtain ⟨s0, s1⟩ := two_cells h1.sbox
    exact ⟨cell_heap h1.fbox 0, cell_heap h1.fbox 1, cell_heap h1.fbox 2, cell_heap h1.fbox 3, s0, s1, cell_heap h1.mbox 0, cell_heap h1.mbox 1, cell_heap h1.mbox 2, cell_heap h1.mbox 3, h⟩
  have hll : (listB (blkB b at_ o)).length ≤ 1000000 := by have := list_len (blkB b at_ o); omega
  obtain ⟨L, hL⟩ : ∃ L, listB (blkB b at_ o) = L := ⟨_, rfl⟩
  rw [hL] at QB QA hll
  clear hfn hpn hF hreg hR hn hbl hcl hT hbox hro hrl hsol hrm hb hat hFR hkn ho hol hou ho2 hL
  obtain ⟨a0, a1, a2, a3, b0, b1, m0, m1, m2, m3, hb0⟩ := HKC.out w (Below.refl _ _)
  go_enter Tryd.func19, Tryd.ntmps19
  go_wp2_with fail
  go_region_held3 (fun W' => W'.cell? ⟨fb, 0, none⟩ = some (.string f.name) ∧ W'.cell? ⟨fb, 1, none⟩ = some (.int .i64 (R : Int)) ∧ W'.cell? ⟨fb, 2, none⟩ = some (.slice aa f.arrays.length ac) ∧ W'.cell? ⟨fb, 3, none⟩ = some (.slice ba n bc) ∧
      W'.cell? ⟨sb, 0, none⟩ = some (.slice ia n ic) ∧ W'.cell? ⟨sb, 1, none⟩ = some (.slice oa n oc) ∧
      W'.cell? ⟨mb, 0, none⟩ = some (.string f.name) ∧ W'.cell? ⟨mb, 1, none⟩ = some (.int .i64 (R : Int)) ∧ W'.cell? ⟨mb, 2, none⟩ = some (.slice aa f.arrays.length ac) ∧ W'.cell? ⟨mb, 3, none⟩ = some (.slice pa n pc) ∧ Below w.heap.size w W')
    (first | (go_split_ands; exact HKC.out _ (below_step (by assumption) hB9)) | (go_split_ands; exact HKC.out _ (below_draw1 (by assumption))) | (go_split_ands; exact HKC.out _ (by assumption)))
    (first
      | (go_at_call 15; go_split_ands; refine (QB.out _ (by assumption)).mono ?_; rintro e w9 ⟨v1, rfl, hi1, hB9⟩)
      | (go_at_call 17; go_split_ands; refine (QA.out _ (by assumption)).mono ?_; rintro e w9 ⟨v2, rfl, hi2, hB9⟩)
      | (go_at_call 16; go_split_ands; refine (intsSame_any L _ _ _ (by first | exact hi1 | exact hi1.below hB9) (by first | exact hi2 | exact hi2.below hB9) hll).mono ?_; rintro e w9 ⟨rfl, hB9⟩))
  all_goals
    go_split_ands
    rename Below w.heap.size w _ => hBQ
    have HBQ := Lib.hid hBQ
    go_wp2_with fail
    go_ret
    exact ⟨rfl, HBQ.out⟩
theorem points_sets (f : Fn) (aa ba : Option Addr) (ac bc R n fb sb mb : Nat) (w : World) (hf : FnAt w f aa ba) (hreg : f.regs = (R : Int)) (hn : f.blocks.length = n) (hcl : ∀ b ∈ f.blocks, b.code.length ≤ 1000000)
    (QC : ∀ (k at_ : Nat) (b : Blk) (w' : World), Below w.heap.size w w' → f.blocks[k]? = some b → at_ ≤ b.code.length → Calls Tryd.prog 19 #[.int .i64 (k : Int), .int .i64 (at_ : Int), .pointer (some ⟨fb, 0, none⟩), .pointer (some ⟨sb, 0, none⟩), .pointer (some ⟨mb, 0, none⟩)] w' fun e w'' => e = .returned (.bool true) ∧ Below w'.heap.size w' w'') :
    Calls Tryd.prog 18 #[.agg #[.string f.name, .int .i64 (R : Int), .slice aa f.arrays.length ac, .slice ba n bc], .func (.func 19) #[] #[.pointer (some ⟨fb, 0, none⟩), .pointer (some ⟨sb, 0, none⟩), .pointer (some ⟨mb, 0, none⟩)]] w fun e w' => e = .returned (.bool true) ∧ Below w.heap.size w w' := by
  have HF := Lib.hid hf
  have HN := Lib.hid hn
  have HCL := Lib.hid hcl
  have HQC := Lib.hid QC
  have hfits := hf.blocks.fits
  rw [hn] at hfits
  obtain ⟨W, hW⟩ : ∃ W : World, w.alloc (.cells #[.string f.name, .int .i64 (R : Int), .slice aa f.arrays.length ac, .slice ba n bc] 25) = W := ⟨_, rfl⟩
  have HBW : Hid (Below w.heap.size w W) := by show Below _ _ _; rw [← hW]; exact (Below.refl _ _).alloc (Nat.le_refl _) _
  have HX : Hid (W.heap[w.heap.size]? = some (.cells #[.string f.name, .int .i64 (R : Int), .slice aa f.arrays.length ac, .slice ba n bc] 25)) := by
    show _ = _
    rw [← hW]
    exact (MapKept.heap_alloc w _).1
  have x3 : W.cell? ⟨w.heap.size, 3, none⟩ = some (.slice ba n bc) := cell_heap HX.out 3
  clear hf hn hcl QC hreg
  go_enter Tryd.func18, Tryd.ntmps18
  go_wp2_with fail
  clear hW x3
  go_loopw [11] (fun i wr => ∃ j : Nat, j ≤ n ∧ i = .int .i64 (j : Int) ∧ Below W.heap.size W wr) (fun i _ => n - (intOf i).toNat)
  case atStart => exact ⟨0, Nat.zero_le _, rfl, Below.refl _ _⟩
  case round =>
    obtain ⟨j, hj, rfl, hbel⟩ := hrel
    have HBEL := Lib.hid hbel
    have HBF : Hid (Below w.heap.size w wr) := HBW.out.trans (hbel.mono HBW.out.size)
    have hj0 : (0 : Int) ≤ (j : Int) := by omega
    clear hbel
    by_cases hlt : j < n
    · have hlt2 : (j : Int) < (n : Int) := by omega
      obtain ⟨b, hb⟩ : ∃ b, f.blocks[j]? = some b := ⟨_, List.getElem?_eq_getElem (by rw [HN.out]; exact hlt)⟩
      have HB := Lib.hid hb
      rcases HF.out.blocks.at_ with hz | ⟨bb, off, rfl, hk⟩
      · have := HN.out; omega
      obtain ⟨ca, cc, hba, _⟩ := hk j b hb
      obtain ⟨c0, c1, c2, c3, c4⟩ := hba.below HBF.out
      obtain ⟨V1, hV1⟩ : ∃ V1 : World, wr.alloc (.cells #[.slice ca b.code.length cc, .int .u8 b.kind, .int .i64 b.x, .int .i64 b.to, .int .i64 b.els] 43) = V1 := ⟨_, rfl⟩
      have HBV1 : Hid (Below wr.heap.size wr V1) := by show Below _ _ _; rw [← hV1]; exact (Below.refl _ _).alloc (Nat.le_refl _) _
      have HZ1 : Hid (V1.heap[wr.heap.size]? = some (.cells #[.slice ca b.code.length cc, .int .u8 b.kind, .int .i64 b.x, .int .i64 b.to, .int .i64 b.els] 43)) := by
        show _ = _
        rw [← hV1]
        exact (MapKept.heap_alloc wr _).1
      have HBV : Hid (Below W.heap.size W V1) := below_step HBEL.out HBV1.out
      have HBVF : Hid (Below w.heap.size w V1) := below_step HBF.out HBV1.out
      have hcl1 := HCL.out b (List.mem_of_getElem? hb)
      have hcl0 : (0 : Int) ≤ (b.code.length : Int) := by omega
      clear hk hba hb
      go_wp2_with fail
      clear hV1 c0 c1 c2 c3 c4
      obtain ⟨wo, rfl⟩ : ∃ wo : World, wo = wr := ⟨_, rfl⟩
      go_loopw [7] (fun i wi => ∃ m : Nat, m ≤ b.code.length + 1 ∧ i = .int .i64 (m : Int) ∧ Below V1.heap.size V1 wi) (fun i _ => b.code.length + 1 - (intOf i).toNat)
      case atStart => exact ⟨0, Nat.zero_le _, rfl, Below.refl _ _⟩
      case round =>
        obtain ⟨m, hm, rfl, hbm⟩ := hrel
        have HBM := Lib.hid hbm
        have HBMF : Hid (Below w.heap.size w wr) := below_step HBVF.out hbm
        have hm0 : (0 : Int) ≤ (m : Int) := by omega
        have d0 : wr.cell? ⟨wo.heap.size, 0, none⟩ = some (.slice ca b.code.length cc) := cell_heap ((hbm.block _ (lt_heap HZ1.out)).trans HZ1.out) 0
        clear hbm
        by_cases hml : m ≤ b.code.length
        · have hml2 : (m : Int) ≤ (b.code.length : Int) := by omega
          go_wp2_with fail
          refine (HQC.out j m b _ HBMF.out HB.out hml).mono ?_
          rintro e w4 ⟨rfl, hB4⟩
          have HB4 : Hid (Below V1.heap.size V1 w4) := below_step HBM.out hB4
          clear hB4 d0
          go_wp2_with fail
          exact ⟨⟨m + 1, by omega, by go_num, HB4.out⟩, by simp [intOf]; omega⟩
        · obtain rfl : m = b.code.length + 1 := by omega
          have hgt : decide ((b.code.length : Int) + 1 ≤ (b.code.length : Int)) = false := by simp; omega
          have HBN : Hid (Below W.heap.size W wr) := below_step HBV.out HBM.out
          go_wp2_with fail
          exact ⟨⟨j + 1, by omega, by go_num, HBN.out⟩, by simp [intOf]; omega⟩
    · obtain rfl : j = n := by omega
      go_wp2_with fail
      go_ret
      exact ⟨rfl, HBF.out⟩
theorem sets_any (f : Fn) (aa ba : Option Addr) (ac bc : Nat) (w : World) (hf : FnAt w f aa ba) (hT : TabAt 0 Lib.deBruijn64tab w) :
    Calls Tryd.prog 3 #[fnVal f.name f.regs aa f.arrays.length ac ba f.blocks.length bc] w fun e w' => e = .returned (.bool true) ∧ Below w.heap.size w w' := by
  have HF := Lib.hid hf
  have HT := Lib.hid hT
  obtain ⟨n, hn⟩ : ∃ n, f.blocks.length = n := ⟨_, rfl⟩
  have HN := Lib.hid hn
  obtain ⟨W, hW⟩ : ∃ W : World, w.alloc (.cells #[.string f.name, .int .i64 f.regs, .slice aa f.arrays.length ac, .slice ba n bc] 25) = W := ⟨_, rfl⟩
  have HBW : Hid (Below w.heap.size w W) := by show Below _ _ _; rw [← hW]; exact (Below.refl _ _).alloc (Nat.le_refl _) _
  have HX : Hid (W.heap[w.heap.size]? = some (.cells #[.string f.name, .int .i64 f.regs, .slice aa f.arrays.length ac, .slice ba n bc] 25)) := by
    show _ = _
    rw [← hW]
    exact (MapKept.heap_alloc w _).1
  have HXC : Hid (∀ w', Below W.heap.size W w' → (w'.cell? ⟨w.heap.size, 0, none⟩ = some (.string f.name) ∧ w'.cell? ⟨w.heap.size, 1, none⟩ = some (.int .i64 f.regs) ∧ w'.cell? ⟨w.heap.size, 2, none⟩ = some (.slice aa f.arrays.length ac) ∧ w'.cell? ⟨w.heap.size, 3, none⟩ = some (.slice ba n bc)) ∧ Below w.heap.size w w' ∧ FnAt w' f aa ba) := fun w' h => by
    have h9 := (h.block _ (lt_heap HX.out)).trans HX.out
    have h7 := HBW.out.trans (h.mono HBW.out.size)
    exact ⟨⟨cell_heap h9 0, cell_heap h9 1, cell_heap h9 2, cell_heap h9 3⟩, h7, HF.out.below h7⟩
  obtain ⟨⟨x0, x1, x2, x3⟩, _, _⟩ := HXC.out W (Below.refl _ _)
  have QS : Hid (∀ w', FnAt w' f aa ba → Calls Tryd.prog 11 #[.agg #[.string f.name, .int .i64 f.regs, .slice aa f.arrays.length ac, .slice ba n bc]] w' (Tells (SmallF f) w')) := fun w' h => by
    have h9 := small_any f aa ba ac bc w' h
    rw [HN.out] at h9
    exact h9
  rw [hn]
  clear hf hT hn
  go_enter Tryd.func3, Tryd.ntmps3
  go_wp2_with fail
  clear hW x0 x1 x2 x3
  refine (awake_any _ (tab_keep HT.out HBW.out)).mono ?_
  rintro e w1 ⟨rfl, hB1⟩
  have HB1 := Lib.hid hB1
  obtain ⟨⟨x0, x1, x2, x3⟩, hbf, hfn⟩ := HXC.out w1 hB1
  have HBF1 := Lib.hid hbf
  have HFN1 := Lib.hid hfn
  clear hB1 hbf hfn
  go_wp2_with fail
  clear x0 x1 x2 x3
  refine (QS.out _ HFN1.out).mono ?_
  rintro e w2 ⟨r, rfl, hr, hB2⟩
  have HR := Lib.hid hr
  have HB2 : Hid (Below W.heap.size W w2) := below_step HB1.out hB2
  obtain ⟨⟨x0, x1, x2, x3⟩, hbf, hfn⟩ := HXC.out w2 HB2.out
  have HBF2 := Lib.hid hbf
  have HFN2 := Lib.hid hfn
  clear hr hB2 hbf hfn
  cases r with
  | false =>
    go_wp2_with fail
    refine (awake_any _ (tab_keep HT.out HBF2.out)).mono ?_
    rintro e w3 ⟨rfl, hB3⟩
    have HB3 : Hid (Below w.heap.size w w3) := below_step HBF2.out hB3
    clear hB3
    go_wp2_with fail
    go_ret
    exact ⟨rfl, HB3.out⟩
  | true =>
    have HSM := Lib.hid (HR.out.1 rfl)
    have HFIT := Lib.hid (small_fits HSM.out)
    have QP : Hid (∀ w', FnAt w' f aa ba → Calls Tryd.prog 13 #[.agg #[.string f.name, .int .i64 f.regs, .slice aa f.arrays.length ac, .slice ba n bc]] w' (fun e w'' => ∃ ba' bc', e = .returned (fnVal f.name f.regs aa f.arrays.length ac ba' n bc') ∧ FnAt w'' f aa ba' ∧ Below w'.heap.size w' w'')) := fun w' h => by
      have h9 := plain_any f aa ba ac bc w' h (by have := HFIT.out.1; omega) HFIT.out.2
      rw [HN.out] at h9
      exact h9
    have QM : Hid (∀ ba' bc' w', FnAt w' f aa ba' → Calls Tryd.prog 14 #[.agg #[.string f.name, .int .i64 f.regs, .slice aa f.arrays.length ac, .slice ba' n bc']] w' (Tells (FormF f) w')) := fun ba' bc' w' h => by
      have h9 := form_any f aa ba' ac bc' w' h HFIT.out.1 HFIT.out.2
      rw [HN.out] at h9
      exact h9
    by_cases hform : FormF f
    · have HFM := Lib.hid hform
      clear hform
      obtain ⟨R, hR⟩ : ∃ R : Nat, f.regs = (R : Int) := ⟨f.regs.toNat, (Int.toNat_of_nonneg HFM.out.r0).symm⟩
      have hR12 : R ≤ 12 := by have := HSM.out.rg; omega
      simp only [hR] at HX HXC QP QM ⊢
      have HREG := Lib.hid hR
      have HR12 := Lib.hid hR12
      have HFR : Hid (FormR f R) := by
        have h9 := HFM.out.small HSM.out.rg
        rw [hR, Int.toNat_natCast] at h9
        exact h9
      simp only [hR] at x1
      have QO : Hid (∀ w', FnAt w' f aa ba → Below w.heap.size w w' → Calls Tryd.prog 12 #[.agg #[.string f.name, .int .i64 (R : Int), .slice aa f.arrays.length ac, .slice ba n bc]] w' (OfEnd f R w')) := fun w' h hB => by
        have h9 := of_any f R aa ba ac bc w' h HFM.out HREG.out HR12.out HFIT.out.1 HFIT.out.2 (tab_keep HT.out hB)
        rw [HREG.out, HN.out] at h9
        exact h9
      clear hR hR12
      go_wp2_with fail
      clear x0 x1 x2 x3
      refine (QO.out _ HFN2.out HBF2.out).mono ?_
      rintro e w3 ⟨iv, ov, rin, rout, ins, outs, rfl, hri, hro, hsol, hm1, hm2, hB3⟩
      have HSOL := Lib.hid hsol
      have HM1 := Lib.hid hm1
      have HM2 := Lib.hid hm2
      have HLN : Hid (rin.length = n ∧ rout.length = n ∧ ins.length = n ∧ outs.length = n) := by
        have e1 : ins.length = n := by rw [hsol.li, HN.out]
        have e2 : outs.length = n := by rw [hsol.lo, HN.out]
        have e3 := congrArg List.length hm1
        have e4 := congrArg List.length hm2
        simp only [List.length_map] at e3 e4
        exact ⟨by omega, by omega, e1, e2⟩
      obtain ⟨iva, ivc, rfl⟩ : ∃ a c, iv = .slice a n c := by
        obtain ⟨a, c, h9⟩ := hri.val
        exact ⟨a, c, by rw [h9, HLN.out.1]⟩
      obtain ⟨ova, ovc, rfl⟩ : ∃ a c, ov = .slice a n c := by
        obtain ⟨a, c, h9⟩ := hro.val
        exact ⟨a, c, by rw [h9, HLN.out.2.1]⟩
      have hn0 : 0 < n := by have := HFM.out.one; have := HN.out; omega
      have HN0 := Lib.hid hn0
      obtain ⟨ib, rfl, _, hib, _⟩ := own_some (by have h9 := hri.ro; rw [HLN.out.1] at h9; exact h9) hn0
      obtain ⟨ob, rfl, _, hob, _⟩ := own_some (by have h9 := hro.ro; rw [HLN.out.2.1] at h9; exact h9) hn0
      have HRI := Lib.hid hri
      have HRO := Lib.hid hro
      obtain ⟨V3, hV3⟩ : ∃ V3 : World, w3.alloc (.cells #[.slice (some ⟨ib, 0, none⟩) n ivc, .slice (some ⟨ob, 0, none⟩) n ovc] 30) = V3 := ⟨_, rfl⟩
      have HBV3 : Hid (Below w3.heap.size w3 V3) := by show Below _ _ _; rw [← hV3]; exact (Below.refl _ _).alloc (Nat.le_refl _) _
      have HS3 : Hid (V3.heap[w3.heap.size]? = some (.cells #[.slice (some ⟨ib, 0, none⟩) n ivc, .slice (some ⟨ob, 0, none⟩) n ovc] 30)) := by show _ = _; rw [← hV3]; exact (MapKept.heap_alloc w3 _).1
      have HB3 : Hid (Below W.heap.size W V3) := below_step (below_step HB2.out hB3) HBV3.out
      obtain ⟨⟨x0, x1, x2, x3⟩, hbf, hfn⟩ := HXC.out V3 HB3.out
      have HFN3 := Lib.hid hfn
      clear hB3 hbf hfn hri hro hsol hm1 hm2 hib hob hn0
      go_wp2_with fail
      clear hV3 x0 x1 x2 x3
      refine (QP.out _ HFN3.out).mono ?_
      rintro e w4 ⟨pa, pc, rfl, hf4, hB4⟩
      obtain ⟨V4, hV4⟩ : ∃ V4 : World, w4.alloc (.cells #[.string f.name, .int .i64 (R : Int), .slice aa f.arrays.length ac, .slice pa n pc] 36) = V4 := ⟨_, rfl⟩
      have HBV4 : Hid (Below w4.heap.size w4 V4) := by show Below _ _ _; rw [← hV4]; exact (Below.refl _ _).alloc (Nat.le_refl _) _
      have HM4 : Hid (V4.heap[w4.heap.size]? = some (.cells #[.string f.name, .int .i64 (R : Int), .slice aa f.arrays.length ac, .slice pa n pc] 36)) := by show _ = _; rw [← hV4]; exact (MapKept.heap_alloc w4 _).1
      have HS4 : Hid (V4.heap[w3.heap.size]? = some (.cells #[.slice (some ⟨ib, 0, none⟩) n ivc, .slice (some ⟨ob, 0, none⟩) n ovc] 30)) := by
        have h8 := (hB4.block _ (lt_heap HS3.out)).trans HS3.out
        exact (HBV4.out.block _ (lt_heap h8)).trans h8
      have HRI4 := Lib.hid ((HRI.out.keep HBV3.out).keep (below_step hB4 HBV4.out))
      have HRO4 := Lib.hid ((HRO.out.keep HBV3.out).keep (below_step hB4 HBV4.out))
      have HFP4 := Lib.hid (hf4.below HBV4.out)
      have HB4 : Hid (Below W.heap.size W V4) := below_step (below_step HB3.out hB4) HBV4.out
      have KEEP : Hid (∀ w', Below V4.heap.size V4 w' → (w'.cell? ⟨w.heap.size, 0, none⟩ = some (.string f.name) ∧ w'.cell? ⟨w.heap.size, 1, none⟩ = some (.int .i64 (R : Int)) ∧ w'.cell? ⟨w.heap.size, 2, none⟩ = some (.slice aa f.arrays.length ac) ∧ w'.cell? ⟨w.heap.size, 3, none⟩ = some (.slice ba n bc)) ∧
          (w'.cell? ⟨w3.heap.size, 0, none⟩ = some (.slice (some ⟨ib, 0, none⟩) n ivc) ∧ w'.cell? ⟨w3.heap.size, 1, none⟩ = some (.slice (some ⟨ob, 0, none⟩) n ovc)) ∧
          (w'.cell? ⟨w4.heap.size, 0, none⟩ = some (.string f.name) ∧ w'.cell? ⟨w4.heap.size, 1, none⟩ = some (.int .i64 (R : Int)) ∧ w'.cell? ⟨w4.heap.size, 2, none⟩ = some (.slice aa f.arrays.length ac) ∧ w'.cell? ⟨w4.heap.size, 3, none⟩ = some (.slice pa n pc)) ∧
          Below w.heap.size w w' ∧ FnAt w' f aa ba ∧ FnAt w' f aa pa ∧ IRows w2.heap.size w' (.slice (some ⟨ib, 0, none⟩) n ivc) rin ∧ IRows w2.heap.size w' (.slice (some ⟨ob, 0, none⟩) n ovc) rout ∧
          SetBox f aa ba pa ac bc pc R n w.heap.size w3.heap.size w4.heap.size (.slice (some ⟨ib, 0, none⟩) n ivc) (.slice (some ⟨ob, 0, none⟩) n ovc) w') := fun w' h => by
        obtain ⟨hx, hbw, hfw⟩ := HXC.out w' (below_step HB4.out h)
        have hs := (h.block _ (lt_heap HS4.out)).trans HS4.out
        have hm := (h.block _ (lt_heap HM4.out)).trans HM4.out
        have hx9 := ((below_step HB4.out h).block _ (lt_heap HX.out)).trans HX.out
        exact ⟨hx, two_cells hs, ⟨cell_heap hm 0, cell_heap hm 1, cell_heap hm 2, cell_heap hm 3⟩, hbw, hfw, HFP4.out.below h, HRI4.out.keep h, HRO4.out.keep h, hx9, hs, hm⟩
      have m0 : V4.cell? ⟨w4.heap.size, 0, none⟩ = some (.string f.name) := cell_heap HM4.out 0
      have m1 : V4.cell? ⟨w4.heap.size, 1, none⟩ = some (.int .i64 (R : Int)) := cell_heap HM4.out 1
      have m2 : V4.cell? ⟨w4.heap.size, 2, none⟩ = some (.slice aa f.arrays.length ac) := cell_heap HM4.out 2
      have m3 : V4.cell? ⟨w4.heap.size, 3, none⟩ = some (.slice pa n pc) := cell_heap HM4.out 3
      clear hB4 hf4
      go_wp2_with fail
      clear hV4 m0 m1 m2 m3
      refine (QM.out _ _ _ HFP4.out).mono ?_
      rintro e w5 ⟨r5, rfl, hr5, hB5⟩
      obtain rfl : r5 = true := hr5.2 HFM.out
      have HB5 := Lib.hid hB5
      obtain ⟨⟨x0, x1, x2, x3⟩, ⟨s0, s1⟩, _⟩ := KEEP.out w5 hB5
      clear hr5 hB5
      go_wp2_with fail
      clear x0 x1 x2 x3 s0 s1
      have QN : Hid (∀ (k at_ : Int) (w' : World), Below V4.heap.size V4 w' → (k < 0 ∨ (n : Int) ≤ k ∨ ∃ b, 0 ≤ k ∧ f.blocks[k.toNat]? = some b ∧ (at_ < 0 ∨ (b.code.length : Int) < at_)) → Calls Tryd.prog 15 #[.agg #[.string f.name, .int .i64 (R : Int), .slice aa f.arrays.length ac, .slice ba n bc], .agg #[.slice (some ⟨ib, 0, none⟩) n ivc, .slice (some ⟨ob, 0, none⟩) n ovc], .int .i64 k, .int .i64 at_] w' (fun e w'' => e = .returned (.slice none 0 0) ∧ Below w'.heap.size w' w'')) := fun k at_ w' h hc => by
        obtain ⟨_, _, _, _, hfw, _⟩ := KEEP.out w' h
        have h9 := before_none f aa ba ac bc (.slice (some ⟨ib, 0, none⟩) n ivc) (.slice (some ⟨ob, 0, none⟩) n ovc) k at_ w' hfw HFIT.out.1 HFIT.out.2 ⟨_, _, _, rfl⟩ ⟨_, _, _, rfl⟩ (fun _ => by rw [HN.out]; exact hc)
        rw [HREG.out, HN.out] at h9
        exact h9
      have QA : Hid (∀ (k at_ o : Nat) (b : Blk) (w' : World), Below V4.heap.size V4 w' → f.blocks[k]? = some b → at_ ≤ b.code.length + 1 → outs.getD k 0 = o → Calls Tryd.prog 17 #[.agg #[.string f.name, .int .i64 (R : Int), .slice aa f.arrays.length ac, .slice pa n pc], .int .i64 (k : Int), .int .i64 (at_ : Int)] w' fun e w'' => ∃ v, e = .returned v ∧ IntsAt w'' v (listB (pointB b at_ o)) ∧ Below w'.heap.size w' w'') := fun k at_ o b w' h hb hat ho => by
        obtain ⟨_, _, _, _, _, hpw, _⟩ := KEEP.out w' h
        have h9 := at_any f aa pa ac pc R k at_ o b w' hpw HFIT.out.1 hb HFIT.out.2 hat HFR.out (by rw [← ho]; exact HSOL.out.bo k) (fun r hr => by rw [← ho]; exact HSOL.out.leaves HFR.out hb hr)
        rw [HREG.out, HN.out] at h9
        exact h9.mono fun e w'' ⟨v, h1, h2, h3⟩ => ⟨v, h1, h2.at_, h3⟩
      have hnb : n ≤ 1000 := by have := HFIT.out.1; have := HN.out; omega
      go_loopw [70] (fun i wr => ∃ j : Nat, j ≤ n ∧ i = .int .i64 (j : Int) ∧ Below V4.heap.size V4 wr) (fun i _ => n - (intOf i).toNat)
      case atStart => exact ⟨0, Nat.zero_le _, rfl, HB5.out⟩
      case round =>
        obtain ⟨j, hj, rfl, hbel⟩ := hrel
        have HBEL := Lib.hid hbel
        have hj0 : (0 : Int) ≤ (j : Int) := by omega
        clear hbel
        by_cases hlt : j < n
        · have hlt2 : (j : Int) < (n : Int) := by omega
          obtain ⟨b, hb⟩ : ∃ b, f.blocks[j]? = some b := ⟨_, List.getElem?_eq_getElem (by rw [HN.out]; exact hlt)⟩
          have HB := Lib.hid hb
          obtain ⟨_, _, _, _, hfw, _, hrw, how, _⟩ := KEEP.out wr HBEL.out
          rcases hfw.blocks.at_ with hz | ⟨bb, off, rfl, hk⟩
          · have := HN.out; omega
          obtain ⟨ca, cc, hba, _⟩ := hk j b hb
          obtain ⟨c0, c1, c2, c3, c4⟩ := hba
          obtain ⟨ui, hui⟩ := row_get (j := j) HM1.out (by rw [HLN.out.2.2.1]; exact hlt)
          obtain ⟨uo, huo⟩ := row_get (j := j) HM2.out (by rw [HLN.out.2.2.2]; exact hlt)
          have HUI := Lib.hid hui
          have HUO := Lib.hid huo
          obtain ⟨o, ho⟩ : ∃ o, outs.getD j 0 = o := ⟨_, rfl⟩
          have HO := Lib.hid ho
          obtain ⟨L1, hL1⟩ : ∃ L, listB (blkB b 0 o) = L := ⟨_, rfl⟩
          obtain ⟨L2, hL2⟩ : ∃ L, listB o = L := ⟨_, rfl⟩
          have hL1n : L1.length ≤ 1000000 := by have := list_len (blkB b 0 o); rw [hL1] at this; omega
          have hL2n : L2.length ≤ 1000000 := by have := list_len o; rw [hL2] at this; omega
          have HL1N := Lib.hid hL1n
          have HL2N := Lib.hid hL2n
          obtain ⟨V1, hV1⟩ : ∃ V1 : World, wr.alloc (.cells #[.slice ca b.code.length cc, .int .u8 b.kind, .int .i64 b.x, .int .i64 b.to, .int .i64 b.els] 43) = V1 := ⟨_, rfl⟩
          have HBV1 : Hid (Below wr.heap.size wr V1) := by show Below _ _ _; rw [← hV1]; exact (Below.refl _ _).alloc (Nat.le_refl _) _
          have HZ1 : Hid (V1.heap[wr.heap.size]? = some (.cells #[.slice ca b.code.length cc, .int .u8 b.kind, .int .i64 b.x, .int .i64 b.to, .int .i64 b.els] 43)) := by
            show _ = _
            rw [← hV1]
            exact (MapKept.heap_alloc wr _).1
          have HBV : Hid (Below V4.heap.size V4 V1) := below_step HBEL.out HBV1.out
          have hcl1 := HFIT.out.2 b (List.mem_of_getElem? hb)
          have hcl0 : (0 : Int) ≤ (b.code.length : Int) := by omega
          have HWR : Hid (IntKind.i64.wrap ((b.code.length : Int) + 1) = (b.code.length : Int) + 1) := by
            show _ = _
            rw [IntKind.wrap_i64]
            omega
          have KROW : Hid (∀ w', Below V1.heap.size V1 w' → (w'.cell? ⟨w3.heap.size, 0, none⟩ = some (.slice (some ⟨ib, 0, none⟩) n ivc) ∧ w'.cell? ⟨w3.heap.size, 1, none⟩ = some (.slice (some ⟨ob, 0, none⟩) n ovc) ∧
              w'.cell? ⟨ib, j, none⟩ = some ui ∧ w'.cell? ⟨ob, j, none⟩ = some uo ∧
              w'.cell? ⟨w4.heap.size, 0, none⟩ = some (.string f.name) ∧ w'.cell? ⟨w4.heap.size, 1, none⟩ = some (.int .i64 (R : Int)) ∧ w'.cell? ⟨w4.heap.size, 2, none⟩ = some (.slice aa f.arrays.length ac) ∧ w'.cell? ⟨w4.heap.size, 3, none⟩ = some (.slice pa n pc) ∧
              w'.cell? ⟨wr.heap.size, 0, none⟩ = some (.slice ca b.code.length cc) ∧ Below V1.heap.size V1 w')) := fun w' h => by
            obtain ⟨_, ⟨s0, s1⟩, ⟨m0, m1, m2, m3⟩, _, _, _, hri, hro, _⟩ := KEEP.out w' (below_step HBV.out h)
            exact ⟨s0, s1, hri.cellAt HUI.out, hro.cellAt HUO.out, m0, m1, m2, m3, cell_heap ((h.block _ (lt_heap HZ1.out)).trans HZ1.out) 0, h⟩
          have EI : Hid (∀ w', Below V1.heap.size V1 w' → IntsAt w' ui L1) := fun w' h => by
            obtain ⟨_, _, _, _, _, _, hri, _⟩ := KEEP.out w' (below_step HBV.out h)
            have h9 := hri.get HUI.out
            rw [HSOL.out.eqi j b HB.out, HO.out, hL1] at h9
            exact h9
          have EO : Hid (∀ w', Below V1.heap.size V1 w' → IntsAt w' uo L2) := fun w' h => by
            obtain ⟨_, _, _, _, _, _, _, hro, _⟩ := KEEP.out w' (below_step HBV.out h)
            have h9 := hro.get HUO.out
            rw [HO.out, hL2] at h9
            exact h9
          have QA0 : Hid (∀ w', Below V1.heap.size V1 w' → Calls Tryd.prog 17 #[.agg #[.string f.name, .int .i64 (R : Int), .slice aa f.arrays.length ac, .slice pa n pc], .int .i64 (j : Int), .int .i64 0] w' fun e w'' => ∃ v, e = .returned v ∧ IntsAt w'' v L1 ∧ Below w'.heap.size w' w'') := fun w' h => by
            have h9 := QA.out j 0 o b w' (below_step HBV.out h) HB.out (by omega) HO.out
            unfold pointB at h9
            rw [if_pos (Nat.zero_le _), hL1] at h9
            exact h9
          have QA1 : Hid (∀ w', Below V1.heap.size V1 w' → Calls Tryd.prog 17 #[.agg #[.string f.name, .int .i64 (R : Int), .slice aa f.arrays.length ac, .slice pa n pc], .int .i64 (j : Int), .int .i64 ((b.code.length : Int) + 1)] w' fun e w'' => ∃ v, e = .returned v ∧ IntsAt w'' v L2 ∧ Below w'.heap.size w' w'') := fun w' h => by
            have h9 := QA.out j (b.code.length + 1) o b w' (below_step HBV.out h) HB.out (by omega) HO.out
            unfold pointB at h9
            rw [if_neg (by omega), hL2] at h9
            exact h9
          have QA2 : Hid (∀ (a : Int) (L : List Int) w', Below V1.heap.size V1 w' → ((a = 0 ∧ L = L1) ∨ (a = (b.code.length : Int) + 1 ∧ L = L2)) → Calls Tryd.prog 17 #[.agg #[.string f.name, .int .i64 (R : Int), .slice aa f.arrays.length ac, .slice pa n pc], .int .i64 (j : Int), .int .i64 a] w' fun e w'' => ∃ v, e = .returned v ∧ IntsAt w'' v L ∧ Below w'.heap.size w' w'') := fun a L w' h hc => by
            rcases hc with ⟨rfl, rfl⟩ | ⟨rfl, rfl⟩
            · exact QA0.out w' h
            · exact QA1.out w' h
          have QE : Hid (∀ (va vb : Value) (L : List Int) w', ((va = ui ∧ L = L1) ∨ (va = uo ∧ L = L2)) → Below V1.heap.size V1 w' → IntsAt w' vb L → Calls Tryd.prog 16 #[va, vb] w' fun e w'' => e = .returned (.bool true) ∧ Below w'.heap.size w' w'') := fun va vb L w' hc h hv => by
            rcases hc with ⟨rfl, rfl⟩ | ⟨rfl, rfl⟩
            · exact intsSame_any _ _ _ _ (EI.out w' h) hv HL1N.out
            · exact intsSame_any _ _ _ _ (EO.out w' h) hv HL2N.out
          clear hk hb hfw hrw how hui huo ho hL1 hL2 hL1n hL2n
          go_wp2_with fail
          clear hV1 c0 c1 c2 c3 c4
          obtain ⟨s0, s1, ii, oo, m0, m1, m2, m3, d0, hB0⟩ := KROW.out V1 (Below.refl _ _)
          go_region_held3 (fun w' => w'.cell? ⟨w3.heap.size, 0, none⟩ = some (.slice (some ⟨ib, 0, none⟩) n ivc) ∧ w'.cell? ⟨w3.heap.size, 1, none⟩ = some (.slice (some ⟨ob, 0, none⟩) n ovc) ∧
              w'.cell? ⟨ib, j, none⟩ = some ui ∧ w'.cell? ⟨ob, j, none⟩ = some uo ∧
              w'.cell? ⟨w4.heap.size, 0, none⟩ = some (.string f.name) ∧ w'.cell? ⟨w4.heap.size, 1, none⟩ = some (.int .i64 (R : Int)) ∧ w'.cell? ⟨w4.heap.size, 2, none⟩ = some (.slice aa f.arrays.length ac) ∧ w'.cell? ⟨w4.heap.size, 3, none⟩ = some (.slice pa n pc) ∧
              w'.cell? ⟨wr.heap.size, 0, none⟩ = some (.slice ca b.code.length cc) ∧ Below V1.heap.size V1 w')
            (first | (go_split_ands; exact KROW.out _ (below_step (by assumption) hB9)) | (go_split_ands; exact KROW.out _ (below_draw1 (by assumption))) | (go_split_ands; exact KROW.out _ (by assumption)))
            (first
              | (go_at_call 16; go_split_ands; refine (QE.out _ _ _ _ (by first | exact Or.inl ⟨rfl, rfl⟩ | exact Or.inr ⟨rfl, rfl⟩) (by assumption) (by first | exact hi9 | exact hi9.below hB9 | exact hi9.below (below_draw1 (Below.refl _ _)))).mono ?_; rintro e w9 ⟨rfl, hB9⟩)
              | (go_at_call 17; go_split_ands; refine (QA2.out _ _ _ (by assumption) (by first | exact Or.inl ⟨rfl, rfl⟩ | exact Or.inr ⟨rfl, rfl⟩ | exact Or.inr ⟨HWR.out, rfl⟩)).mono ?_; rintro e w9 ⟨v9, rfl, hi9, hB9⟩))
          all_goals
            go_split_ands
            rename Below V1.heap.size V1 _ => hBQ
            have HBQ := Lib.hid hBQ
            have HBQ4 : Hid (Below V4.heap.size V4 _) := below_step HBV.out hBQ
            obtain ⟨⟨x0, x1, x2, x3⟩, ⟨t0, t1⟩, _⟩ := KEEP.out _ HBQ4.out
            clear hBQ
            go_wp2_with fail
            clear x0 x1 x2 x3 t0 t1
            refine (QN.out _ _ _ HBQ4.out (.inr (.inr ⟨b, hj0, by rw [Int.toNat_natCast]; exact HB.out, .inl (by decide)⟩))).mono ?_
            rintro e w6 ⟨rfl, hB6⟩
            have HB6 : Hid (Below V4.heap.size V4 w6) := below_step HBQ4.out hB6
            have d6 : w6.cell? ⟨wr.heap.size, 0, none⟩ = some (.slice ca b.code.length cc) := cell_heap (((below_step HBQ.out hB6).block _ (lt_heap HZ1.out)).trans HZ1.out) 0
            obtain ⟨⟨x0, x1, x2, x3⟩, ⟨t0, t1⟩, _⟩ := KEEP.out _ HB6.out
            clear hB6
            go_wp2_with fail
            clear x0 x1 x2 x3 t0 t1 d6
            refine (QN.out _ _ _ HB6.out (.inr (.inr ⟨b, hj0, by rw [Int.toNat_natCast]; exact HB.out, .inr (by first | omega | (rw [HWR.out]; omega))⟩))).mono ?_
            rintro e w7 ⟨rfl, hB7⟩
            have HB7 : Hid (Below V4.heap.size V4 w7) := below_step HB6.out hB7
            clear hB7
            go_wp2_with fail
            exact ⟨⟨j + 1, by omega, by go_num, HB7.out⟩, by simp [intOf]; omega⟩
        · obtain rfl : n = j := by omega
          obtain ⟨⟨x0, x1, x2, x3⟩, ⟨t0, t1⟩, _⟩ := KEEP.out _ HBEL.out
          go_wp2_with fail
          clear x0 x1 x2 x3 t0 t1
          refine (QN.out _ _ _ HBEL.out (.inl (by decide))).mono ?_
          rintro e w6 ⟨rfl, hB6⟩
          have HB6 : Hid (Below V4.heap.size V4 w6) := below_step HBEL.out hB6
          obtain ⟨⟨x0, x1, x2, x3⟩, ⟨t0, t1⟩, _⟩ := KEEP.out _ HB6.out
          clear hB6
          go_wp2_with fail
          clear x0 x1 x2 x3 t0 t1
          refine (QN.out _ _ _ HB6.out (.inr (.inl (Int.le_refl _)))).mono ?_
          rintro e w7 ⟨rfl, hB7⟩
          have HB7 : Hid (Below V4.heap.size V4 w7) := below_step HB6.out hB7
          obtain ⟨⟨x0, x1, x2, x3⟩, _, _, hbw7, hfw7, _⟩ := KEEP.out _ HB7.out
          have HBW7 := Lib.hid hbw7
          have HFW7 := Lib.hid hfw7
          clear hB7 hbw7 hfw7
          go_wp2_with fail
          clear x0 x1 x2 x3
          refine (points_sets f aa ba ac bc R n w.heap.size w3.heap.size w4.heap.size w7 HFW7.out HREG.out HN.out HFIT.out.2 (fun k at_ b w' hB hb hat => ?_)).mono ?_
          · obtain ⟨_, _, _, hbw, hfw, hpw, hri, hro, hbox⟩ := KEEP.out w' (below_step HB7.out hB)
            exact sets1_any f aa ba pa ac bc pc R n _ _ _ w2.heap.size k at_ b (some ⟨ib, 0, none⟩) (some ⟨ob, 0, none⟩) ivc ovc 0 rout (.bool false) ins outs w' hfw hpw HFM.out HREG.out HR12.out HN.out (by have := HFIT.out.1; have := HN.out; omega) HFIT.out.2 (tab_keep HT.out hbw) hbox hro HLN.out.2.1 HSOL.out HM2.out hb hat
          · rintro e w8 ⟨rfl, hB8⟩
            have HB8 : Hid (Below w.heap.size w w8) := below_step HBW7.out hB8
            clear hB8
            go_wp2_with fail
            go_ret
            exact ⟨rfl, HB8.out⟩
    · have HFM := Lib.hid hform
      clear hform
      have QO : Hid (∀ w', FnAt w' f aa ba → Calls Tryd.prog 12 #[.agg #[.string f.name, .int .i64 f.regs, .slice aa f.arrays.length ac, .slice ba n bc]] w' (fun e w'' => e = .returned (.tuple #[.agg #[.slice none 0 0, .slice none 0 0], .int .i64 3]) ∧ Below w'.heap.size w' w'')) := fun w' h => by
        have h9 := of_none f aa ba ac bc w' h HFM.out HFIT.out.1 HFIT.out.2
        rw [HN.out] at h9
        exact h9
      have QB : Hid (∀ w', FnAt w' f aa ba → Calls Tryd.prog 15 #[.agg #[.string f.name, .int .i64 f.regs, .slice aa f.arrays.length ac, .slice ba n bc], .agg #[.slice none 0 0, .slice none 0 0], .int .i64 0, .int .i64 0] w' (fun e w'' => e = .returned (.slice none 0 0) ∧ Below w'.heap.size w' w'')) := fun w' h => by
        have h9 := before_none f aa ba ac bc (.slice none 0 0) (.slice none 0 0) 0 0 w' h HFIT.out.1 HFIT.out.2 ⟨_, _, _, rfl⟩ ⟨_, _, _, rfl⟩ (fun h => absurd h HFM.out)
        rw [HN.out] at h9
        exact h9
      go_wp2_with fail
      clear x0 x1 x2 x3
      refine (QO.out _ HFN2.out).mono ?_
      rintro e w3 ⟨rfl, hB3⟩
      obtain ⟨V3, hV3⟩ : ∃ V3 : World, w3.alloc (.cells #[.slice none 0 0, .slice none 0 0] 30) = V3 := ⟨_, rfl⟩
      have HBV3 : Hid (Below w3.heap.size w3 V3) := by show Below _ _ _; rw [← hV3]; exact (Below.refl _ _).alloc (Nat.le_refl _) _
      have HS3 : Hid (V3.heap[w3.heap.size]? = some (.cells #[.slice none 0 0, .slice none 0 0] 30)) := by show _ = _; rw [← hV3]; exact (MapKept.heap_alloc w3 _).1
      have HB3 : Hid (Below W.heap.size W V3) := below_step (below_step HB2.out hB3) HBV3.out
      obtain ⟨⟨x0, x1, x2, x3⟩, hbf, hfn⟩ := HXC.out V3 HB3.out
      have HFN3 := Lib.hid hfn
      obtain ⟨y0, y1⟩ := two_cells HS3.out
      have z0 := setCell_self y0
      have z1 := setCell_self y1
      have z2 := frozen_heap HS3.out 0
      have z3 := frozen_heap HS3.out 1
      clear hB3 hbf hfn
      go_wp2_with fail
      clear hV3 x0 x1 x2 x3 y0 y1 z0 z1 z2 z3
      refine (QP.out _ HFN3.out).mono ?_
      rintro e w4 ⟨ba', bc', rfl, hf4, hB4⟩
      obtain ⟨V4, hV4⟩ : ∃ V4 : World, w4.alloc (.cells #[.string f.name, .int .i64 f.regs, .slice aa f.arrays.length ac, .slice ba' n bc'] 36) = V4 := ⟨_, rfl⟩
      have HBV4 : Hid (Below w4.heap.size w4 V4) := by show Below _ _ _; rw [← hV4]; exact (Below.refl _ _).alloc (Nat.le_refl _) _
      have HM4 : Hid (V4.heap[w4.heap.size]? = some (.cells #[.string f.name, .int .i64 f.regs, .slice aa f.arrays.length ac, .slice ba' n bc'] 36)) := by show _ = _; rw [← hV4]; exact (MapKept.heap_alloc w4 _).1
      have HS4 : Hid (V4.heap[w3.heap.size]? = some (.cells #[.slice none 0 0, .slice none 0 0] 30)) := by
        have h8 := (hB4.block _ (lt_heap HS3.out)).trans HS3.out
        exact (HBV4.out.block _ (lt_heap h8)).trans h8
      have HFP4 := Lib.hid (hf4.below HBV4.out)
      have HB4 : Hid (Below W.heap.size W V4) := below_step (below_step HB3.out hB4) HBV4.out
      have m0 : V4.cell? ⟨w4.heap.size, 0, none⟩ = some (.string f.name) := cell_heap HM4.out 0
      have m1 : V4.cell? ⟨w4.heap.size, 1, none⟩ = some (.int .i64 f.regs) := cell_heap HM4.out 1
      have m2 : V4.cell? ⟨w4.heap.size, 2, none⟩ = some (.slice aa f.arrays.length ac) := cell_heap HM4.out 2
      have m3 : V4.cell? ⟨w4.heap.size, 3, none⟩ = some (.slice ba' n bc') := cell_heap HM4.out 3
      clear hB4 hf4
      go_wp2_with fail
      clear hV4 m0 m1 m2 m3
      refine (QM.out _ _ _ HFP4.out).mono ?_
      rintro e w5 ⟨r5, rfl, hr5, hB5⟩
      obtain rfl : r5 = false := by
        cases r5 with
        | false => rfl
        | true => exact absurd (hr5.1 rfl) HFM.out
      have HB5 : Hid (Below W.heap.size W w5) := below_step HB4.out hB5
      obtain ⟨s0, s1⟩ := two_cells ((hB5.block _ (lt_heap HS4.out)).trans HS4.out)
      obtain ⟨⟨x0, x1, x2, x3⟩, hbf, hfn⟩ := HXC.out w5 HB5.out
      have HFN5 := Lib.hid hfn
      clear hr5 hB5 hbf hfn
      go_wp2_with fail
      clear x0 x1 x2 x3 s0 s1
      refine (QB.out _ HFN5.out).mono ?_
      rintro e w6 ⟨rfl, hB6⟩
      have HB6 : Hid (Below w.heap.size w w6) := (HXC.out w6 (below_step HB5.out hB6)).2.1
      clear hB6
      go_wp2_with fail
      go_ret
      exact ⟨rfl, HB6.out⟩
end Go.Proofs.YteknhnnlhhgppaaDoor
