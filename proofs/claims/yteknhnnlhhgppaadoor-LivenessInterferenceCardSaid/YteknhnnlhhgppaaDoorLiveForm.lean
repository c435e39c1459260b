/-
  Contract: wellFormed (package liveness).
-/
import Derived.Test.YteknhnnlhhgppaaDoorLivePre
import Derived.Test.YteknhnnlhhgppaaDoorIrPlain
import Derived.Deep.QuietTactic
import Derived.BigQuiet
namespace Go.Proofs.YteknhnnlhhgppaaDoor
set_option linter.unusedVariables false
set_option linter.unusedSimpArgs false
open Go.RowKit
set_option maxRecDepth 100000
set_option maxHeartbeats 16000000

structure InsF (regs : Int) (i : Ins) : Prop where
  op0 : 1 ≤ i.op
  op1 : i.op ≤ 16
  use : ∀ r ∈ i.uses, 0 ≤ r ∧ r < regs
  dfn : ∀ d, i.defines = some d → 0 ≤ d ∧ d < regs
structure BlkF (regs : Int) (n : Nat) (b : Blk) : Prop where
  ins : ∀ i ∈ b.code, InsF regs i
  k0 : 1 ≤ b.kind
  k1 : b.kind ≤ 3
  succ : ∀ t ∈ b.succ, 0 ≤ t ∧ t < (n : Int)
  fin : b.kind = 2 → 0 ≤ b.x ∧ b.x < regs
/-- a function that is well-formed -/
structure FormF (f : Fn) : Prop where
  one : 0 < f.blocks.length
  r0 : 0 ≤ f.regs
  r1 : f.regs ≤ 10000
  blk : ∀ b ∈ f.blocks, BlkF f.regs f.blocks.length b
theorem FormF.small {f : Fn} (h : FormF f) (hs : f.regs ≤ 12) : FormR f f.regs.toNat := by
  have h0 := h.r0
  have e : ((f.regs.toNat : Nat) : Int) = f.regs := Int.toNat_of_nonneg h0
  refine ⟨e.symm, by omega, h.one, fun b hb => ?_⟩
  have hB := h.blk b hb
  exact ⟨fun i hi => ⟨(hB.ins i hi).op0, (hB.ins i hi).op1, ⟨fun r hr => by rw [e]; exact (hB.ins i hi).use r hr, fun d hd => by rw [e]; exact (hB.ins i hi).dfn d hd⟩⟩, ⟨hB.k0, hB.k1⟩, fun hk => by rw [e]; exact hB.fin hk, hB.succ⟩
/-- the answer is that of a proposition -/
def Tells (P : Prop) (w : World) (e : Ending) (w' : World) : Prop := ∃ r : Bool, e = .returned (.bool r) ∧ (r = true ↔ P) ∧ Below w.heap.size w w'
theorem reg_any (r regs : Int) (fb : Nat) (w : World) (h2 : w.cell? ⟨fb, 1, none⟩ = some (.int .i64 regs)) :
    Calls Tryd.prog 74 #[.int .i64 r, .pointer (some ⟨fb, 0, none⟩)] w fun e w' => e = .returned (.bool (decide (0 ≤ r) && decide (r < regs))) ∧ w = w' := by
  by_cases h0 : 0 ≤ r
  · go_enter Tryd.func74, Tryd.ntmps74
    go_wp2_with fail
    go_ret
    simp [h0]
  · have hd : decide (0 ≤ r) = false := by simpa using h0
    go_enter Tryd.func74, Tryd.ntmps74
    go_wp2_with fail
    go_ret
    simp [h0]
theorem wellFormed_any (f : Fn) (aa ba : Option Addr) (ac bc : Nat) (w : World) (hf : FnAt w f aa ba) (hbl : f.blocks.length ≤ 1000) (hcl : ∀ b ∈ f.blocks, b.code.length ≤ 1000000) :
    Calls Tryd.prog 40 #[fnVal f.name f.regs aa f.arrays.length ac ba f.blocks.length bc] w (Tells (FormF f) w) := by
  have HF := Lib.hid hf
  have HCL := Lib.hid hcl
  obtain ⟨n, hn⟩ : ∃ n, f.blocks.length = n := ⟨_, rfl⟩
  have HN := Lib.hid hn
  obtain ⟨W, hW⟩ : ∃ W : World, w.alloc (.cells #[.string f.name, .int .i64 f.regs, .slice aa f.arrays.length ac, .slice ba n bc] 25) = W := ⟨_, rfl⟩
  have hWs : W.heap.size = w.heap.size + 1 := by rw [← hW]; simp
  have HWS := Lib.hid hWs
  have HBW : Hid (Below w.heap.size w W) := by show Below _ _ _; rw [← hW]; exact (Below.refl _ _).alloc (Nat.le_refl _) _
  have HX : Hid (W.heap[w.heap.size]? = some (.cells #[.string f.name, .int .i64 f.regs, .slice aa f.arrays.length ac, .slice ba n bc] 25)) := by
    show _ = _
    rw [← hW]
    exact (MapKept.heap_alloc w _).1
  have HXC : Hid (∀ w', Below W.heap.size W w' → w'.cell? ⟨w.heap.size, 1, none⟩ = some (.int .i64 f.regs) ∧ w'.cell? ⟨w.heap.size, 3, none⟩ = some (.slice ba n bc)) := fun w' h =>
    ⟨(h.cell (p := ⟨w.heap.size, 1, none⟩) (by show w.heap.size < _; omega)).trans (cell_heap HX.out 1), (h.cell (p := ⟨w.heap.size, 3, none⟩) (by show w.heap.size < _; omega)).trans (cell_heap HX.out 3)⟩
  obtain ⟨x1, x3⟩ := HXC.out W (Below.refl _ _)
  rw [hn] at hbl ⊢
  clear hf hcl hn hWs
  by_cases h0 : n = 0
  · subst h0
    have hno : ¬ FormF f := fun h => by have := h.one; have := HN.out; omega
    have HNO := Lib.hid hno
    clear hno
    go_enter Tryd.func40, Tryd.ntmps40
    go_wp2_with fail
    go_ret
    exact ⟨false, rfl, ⟨fun h => by simp at h, fun h => absurd h HNO.out⟩, HBW.out⟩
  have hnz : ((n : Int) == 0) = false := by simp; omega
  by_cases h1 : f.regs < 0
  · have hno : ¬ FormF f := fun h => by have := h.r0; omega
    have HNO := Lib.hid hno
    clear hno
    go_enter Tryd.func40, Tryd.ntmps40
    go_wp2_with fail
    go_ret
    exact ⟨false, rfl, ⟨fun h => by simp at h, fun h => absurd h HNO.out⟩, HBW.out⟩
  have h1d : decide (f.regs < 0) = false := by simpa using h1
  by_cases h2 : 10000 < f.regs
  · have hno : ¬ FormF f := fun h => by have := h.r1; omega
    have HNO := Lib.hid hno
    clear hno
    go_enter Tryd.func40, Tryd.ntmps40
    go_wp2_with fail
    go_ret
    exact ⟨false, rfl, ⟨fun h => by simp at h, fun h => absurd h HNO.out⟩, HBW.out⟩
  have h2d : decide (10000 < f.regs) = false := by simpa using h2
  have H12 : Hid (0 ≤ f.regs ∧ f.regs ≤ 10000 ∧ 0 < n) := by show _ ∧ _; omega
  go_enter Tryd.func40, Tryd.ntmps40
  go_wp2_with fail
  clear x1 x3 hW h1 h1d h2 h2d hnz
  go_loopw [32] (fun i wr => ∃ j : Nat, j ≤ n ∧ i = .int .i64 (j : Int) ∧ (∀ b ∈ f.blocks.take j, BlkF f.regs n b) ∧ Below W.heap.size W wr) (fun i _ => n - (intOf i).toNat)
  case atStart => exact ⟨0, Nat.zero_le _, rfl, by simp, Below.refl _ _⟩
  case round =>
    obtain ⟨j, hj, rfl, hall, hbel⟩ := hrel
    have HALL := Lib.hid hall
    have HBEL := Lib.hid hbel
    have hj0 : (0 : Int) ≤ (j : Int) := by omega
    obtain ⟨x1, x3⟩ := HXC.out wr hbel
    clear hall hbel
    by_cases hlt : j < n
    · skip
      have hlt2 : (j : Int) < (n : Int) := by omega
      obtain ⟨b, hb⟩ : ∃ b, f.blocks[j]? = some b := ⟨_, List.getElem?_eq_getElem (by rw [HN.out]; exact hlt)⟩
      have HB := Lib.hid hb
      rcases HF.out.blocks.at_ with hz | ⟨bb, off, rfl, hk⟩
      · have := HN.out; omega
      obtain ⟨ca, cc, hba, hcode⟩ := hk j b hb
      obtain ⟨c0, c1, c2, c3, c4⟩ := hba.below (HBW.out.trans (HBEL.out.mono HBW.out.size))
      have HCODE := Lib.hid hcode
      obtain ⟨V1, hV1⟩ : ∃ V1 : World, wr.alloc (.cells #[.slice ca b.code.length cc, .int .u8 b.kind, .int .i64 b.x, .int .i64 b.to, .int .i64 b.els] 43) = V1 := ⟨_, rfl⟩
      have HBV1 : Hid (Below wr.heap.size wr V1) := by show Below _ _ _; rw [← hV1]; exact (Below.refl _ _).alloc (Nat.le_refl _) _
      have HZ1 : Hid (V1.heap[wr.heap.size]? = some (.cells #[.slice ca b.code.length cc, .int .u8 b.kind, .int .i64 b.x, .int .i64 b.to, .int .i64 b.els] 43)) := by
        show _ = _
        rw [← hV1]
        exact (MapKept.heap_alloc wr _).1
      have HBW1 : Hid (Below W.heap.size W V1) := below_step HBEL.out HBV1.out
      have HV1S : Hid (V1.heap.size = wr.heap.size + 1) := by show _ = _; rw [← hV1]; simp
      obtain ⟨d0, d1, d2, d3, d4⟩ := five_cells HZ1.out
      have hwfb := HF.out.blocks.wf b (List.mem_of_getElem? hb)
      have HWFB := Lib.hid hwfb
      have hcl1 := HCL.out b (List.mem_of_getElem? hb)
      clear hk hba hcode hb hwfb x1 x3
      go_wp2_with fail
      clear hV1 c0 c1 c2 c3 c4 d0 d1 d2 d3 d4
      obtain ⟨wo, rfl⟩ : ∃ wo : World, wo = wr := ⟨_, rfl⟩
      go_loopw [39] (fun i wi => ∃ k : Nat, k ≤ b.code.length ∧ i = .int .i64 (k : Int) ∧ (∀ q ∈ b.code.take k, InsF f.regs q) ∧ Below V1.heap.size V1 wi) (fun i _ => b.code.length - (intOf i).toNat)
      case atStart => exact ⟨0, Nat.zero_le _, rfl, by simp, Below.refl _ _⟩
      case round =>
        obtain ⟨k, hk, rfl, hins, hbi⟩ := hrel
        have HINS := Lib.hid hins
        have HBI := Lib.hid hbi
        have hk0 : (0 : Int) ≤ (k : Int) := by omega
        have HBWI : Hid (Below W.heap.size W wr) := below_step HBW1.out hbi
        obtain ⟨x1, x3⟩ := HXC.out wr HBWI.out
        clear hins hbi
        by_cases hkl : k < b.code.length
        · skip
          obtain ⟨q, hq⟩ : ∃ q, b.code[k]? = some q := ⟨_, List.getElem?_eq_getElem hkl⟩
          have HQ := Lib.hid hq
          have hkl2 : (k : Int) < (b.code.length : Int) := by omega
          rcases HCODE.out.at_ with hz | ⟨cb, co, rfl, hcc⟩
          · omega
          obtain ⟨c0, c1, c2, c3, c4, c5⟩ := (hcc k q hq).below (HBW.out.trans (HBWI.out.mono HBW.out.size))
          obtain ⟨op0, op1, _, _, _, _, _⟩ := HCODE.out.wf q (List.mem_of_getElem? hq)
          obtain ⟨V2, hV2⟩ : ∃ V2 : World, wr.alloc (.cells #[.int .u8 q.op, .int .i64 q.dst, .int .i64 q.x, .int .i64 q.y, .int .i64 q.imm, .string q.sym] 54) = V2 := ⟨_, rfl⟩
          have HBV2 : Hid (Below wr.heap.size wr V2) := by show Below _ _ _; rw [← hV2]; exact (Below.refl _ _).alloc (Nat.le_refl _) _
          have HZ2 : Hid (V2.heap[wr.heap.size]? = some (.cells #[.int .u8 q.op, .int .i64 q.dst, .int .i64 q.x, .int .i64 q.y, .int .i64 q.imm, .string q.sym] 54)) := by
            show _ = _
            rw [← hV2]
            exact (MapKept.heap_alloc wr _).1
          have HV2S : Hid (V2.heap.size = wr.heap.size + 1) := by show _ = _; rw [← hV2]; simp
          have HBI2 : Hid (Below V1.heap.size V1 V2) := below_step HBI.out HBV2.out
          obtain ⟨g0, g1, g2, g3, g4, g5⟩ := six_cells HZ2.out
          have HNOT : Hid (¬ InsF f.regs q → ¬ FormF f) := fun h hF => h ((hF.blk b (List.mem_of_getElem? HB.out)).ins q (List.mem_of_getElem? HQ.out))
          have HWB : Hid (∀ w', Below V2.heap.size V2 w' → Below w.heap.size w w') := fun w' h => HBW.out.trans ((below_step (below_step HBWI.out HBV2.out) h).mono HBW.out.size)
          clear hcc hq
          by_cases ho1 : q.op < 1
          · have HNO : Hid (¬ FormF f) := HNOT.out (fun h => by have := h.op0; omega)
            go_wp2_with fail
            go_ret
            exact ⟨false, rfl, ⟨fun h => by simp at h, fun h => absurd h HNO.out⟩, HWB.out _ (Below.refl _ _)⟩
          have ho1d : decide (q.op < 1) = false := by simpa using ho1
          by_cases ho2 : 16 < q.op
          · have HNO : Hid (¬ FormF f) := HNOT.out (fun h => by have := h.op1; omega)
            go_wp2_with fail
            go_ret
            exact ⟨false, rfl, ⟨fun h => by simp at h, fun h => absurd h HNO.out⟩, HWB.out _ (Below.refl _ _)⟩
          have ho2d : decide (16 < q.op) = false := by simpa using ho2
          have HOP : Hid (1 ≤ q.op ∧ q.op ≤ 16) := by show _ ∧ _; omega
          go_wp2_with fail
          clear hV2 c0 c1 c2 c3 c4 c5 g0 g1 g2 g3 g4 g5 ho1 ho1d ho2 ho2d op0 op1
          refine (uses_any q _).mono ?_
          rintro e w3 ⟨uv, rfl, hU, hB3⟩
          obtain ⟨ua, uc, rfl⟩ : ∃ ua uc, uv = .slice ua q.uses.length uc := by
            rcases hU with ⟨h1, h2⟩ | ⟨b', off', cap, h2, _⟩
            · exact ⟨none, 0, by rw [h2, h1]; rfl⟩
            · exact ⟨_, _, h2⟩
          have HU := Lib.hid hU
          have HB3 := Lib.hid hB3
          have hul := uses_two q
          obtain ⟨un, hun⟩ : ∃ m, q.uses.length = m := ⟨_, rfl⟩
          have HUN := Lib.hid hun
          rw [hun] at hul HU ⊢
          clear hU hB3 hun
          go_wp2_with fail
          obtain ⟨wp, rfl⟩ : ∃ wp : World, wp = wr := ⟨_, rfl⟩
          go_loopw [54] (fun i wi => ∃ m : Nat, m ≤ un ∧ i = .int .i64 (m : Int) ∧ (∀ r ∈ q.uses.take m, 0 ≤ r ∧ r < f.regs) ∧ Below w3.heap.size w3 wi) (fun i _ => un - (intOf i).toNat)
          case atStart => exact ⟨0, Nat.zero_le _, rfl, by simp, Below.refl _ _⟩
          case round =>
            obtain ⟨m, hm, rfl, huse, hbm⟩ := hrel
            have HUSE := Lib.hid huse
            have HBM := Lib.hid hbm
            have HBM2 : Hid (Below V2.heap.size V2 wr) := below_step HB3.out hbm
            have hm0 : (0 : Int) ≤ (m : Int) := by omega
            obtain ⟨y1, y3⟩ := HXC.out wr (below_step (below_step HBWI.out HBV2.out) HBM2.out)
            have hzq : wr.heap[wp.heap.size]? = some (.cells #[.int .u8 q.op, .int .i64 q.dst, .int .i64 q.x, .int .i64 q.y, .int .i64 q.imm, .string q.sym] 54) := (HBM2.out.block _ (by have := HV2S.out; omega)).trans HZ2.out
            have HZQ := Lib.hid hzq
            clear huse hbm hzq
            by_cases hml : m < un
            · have hml2 : (m : Int) < (un : Int) := by omega
              have hmu : m < q.uses.length := by have := HUN.out; omega
              obtain ⟨r, hr⟩ : ∃ r, q.uses[m]? = some r := ⟨_, List.getElem?_eq_getElem hmu⟩
              have HR := Lib.hid hr
              rcases HU.out with ⟨h1, _⟩ | ⟨ub, uo, cap, hv3, hb1, _, hb2, hc⟩
              · have := HUN.out; rw [h1] at this; simp at this; omega
              obtain ⟨rfl⟩ : ua = some ⟨ub, uo, none⟩ := by injection hv3
              have hcell : wr.cell? ⟨ub, uo + m, none⟩ = some (.int .i64 r) := by
                rw [World.cell?_of_block (a := ⟨ub, uo + m, none⟩) (HBM.out.block ub hb2), hc m hmu, List.getD_eq_getElem?_getD, hr]
                rfl
              clear hv3 hb1 hb2 hc hr
              go_wp2_with fail
              refine (reg_any r f.regs w.heap.size _ y1).mono ?_
              rintro e w4 ⟨rfl, rfl⟩
              by_cases hok : 0 ≤ r ∧ r < f.regs
              · have hd : (decide (0 ≤ r) && decide (r < f.regs)) = true := by simp [hok]
                rw [hd]
                have HNX : Hid (∀ z ∈ q.uses.take (m + 1), 0 ≤ z ∧ z < f.regs) := fun z hz => by
                  rw [take_snoc HR.out] at hz
                  rcases List.mem_append.1 hz with hz | hz
                  · exact HUSE.out z hz
                  · rw [List.mem_singleton.1 hz]; exact hok
                clear hd hok
                go_wp2_with fail
                exact ⟨⟨m + 1, by omega, by go_num, HNX.out, HBM.out⟩, by simp [intOf]; omega⟩
              · have hd : (decide (0 ≤ r) && decide (r < f.regs)) = false := by
                  rw [Bool.and_eq_false_iff]
                  by_cases h5 : 0 ≤ r
                  · right; simp; have := fun h6 => hok ⟨h5, h6⟩; omega
                  · left; simpa using h5
                rw [hd]
                have HNO : Hid (¬ FormF f) := HNOT.out (fun h => hok (h.use r (List.mem_of_getElem? HR.out)))
                clear hd hok
                go_wp2_with fail
                go_ret
                exact ⟨false, rfl, ⟨fun h => by simp at h, fun h => absurd h HNO.out⟩, HWB.out _ HBM2.out⟩
            · obtain rfl : m = un := by omega
              have HUA : Hid (∀ r ∈ q.uses, 0 ≤ r ∧ r < f.regs) := by have := HUSE.out; rwa [← HUN.out, List.take_length] at this
              obtain ⟨g0, g1, g2, g3, g4, g5⟩ := six_cells HZQ.out
              go_wp2_with fail
              clear g0 g1 g2 g3 g4 g5
              refine (defines_any q _).mono ?_
              unfold DefOk
              rintro e w4 ⟨rfl, hB4⟩
              have HB4 : Hid (Below V2.heap.size V2 w4) := below_step HBM2.out hB4
              obtain ⟨z1, z3⟩ := HXC.out w4 (below_step (below_step HBWI.out HBV2.out) HB4.out)
              clear hB4 y1 y3
              have HFIN : Hid (InsF f.regs q → ∀ w', Below V2.heap.size V2 w' → (∃ k' : Nat, k' ≤ b.code.length ∧ Value.int .i64 ((k : Int) + 1) = .int .i64 (k' : Int) ∧ (∀ q ∈ b.code.take k', InsF f.regs q) ∧ Below V1.heap.size V1 w') ∧ b.code.length - (intOf (.int .i64 ((k : Int) + 1))).toNat < b.code.length - (intOf (.int .i64 (k : Int))).toNat) := fun hI w' hw => by
                refine ⟨⟨k + 1, by omega, by go_num, fun z hz => ?_, below_step HBI2.out hw⟩, by simp [intOf]; omega⟩
                rw [take_snoc HQ.out] at hz
                rcases List.mem_append.1 hz with hz | hz
                · exact HINS.out z hz
                · rw [List.mem_singleton.1 hz]; exact hI
              obtain ⟨K, hK⟩ : ∃ K : Option Int, q.defines = K := ⟨_, rfl⟩
              rw [hK]
              have HD := Lib.hid hK
              clear hK
              cases K with
              | none =>
                have HI : Hid (InsF f.regs q) := ⟨HOP.out.1, HOP.out.2, HUA.out, fun d hd => by rw [HD.out] at hd; cases hd⟩
                simp only [Option.getD_none, Option.isSome_none]
                go_wp2_with fail
                exact HFIN.out HI.out _ HB4.out
              | some d =>
                simp only [Option.getD_some, Option.isSome_some]
                go_wp2_with fail
                refine (reg_any d f.regs w.heap.size _ z1).mono ?_
                rintro e w5 ⟨rfl, rfl⟩
                by_cases hok : 0 ≤ d ∧ d < f.regs
                · have hd : (decide (0 ≤ d) && decide (d < f.regs)) = true := by simp [hok]
                  rw [hd]
                  have HI : Hid (InsF f.regs q) := ⟨HOP.out.1, HOP.out.2, HUA.out, fun d' hd' => by rw [HD.out] at hd'; injection hd' with hd'; rw [← hd']; exact hok⟩
                  clear hd hok
                  go_wp2_with fail
                  exact HFIN.out HI.out _ HB4.out
                · have hd : (decide (0 ≤ d) && decide (d < f.regs)) = false := by
                    rw [Bool.and_eq_false_iff]
                    by_cases h5 : 0 ≤ d
                    · right; simp; have := fun h6 => hok ⟨h5, h6⟩; omega
                    · left; simpa using h5
                  rw [hd]
                  have HNO : Hid (¬ FormF f) := HNOT.out (fun h => hok (h.dfn d HD.out))
                  clear hd hok
                  go_wp2_with fail
                  go_ret
                  exact ⟨false, rfl, ⟨fun h => by simp at h, fun h => absurd h HNO.out⟩, HWB.out _ HB4.out⟩
        · obtain rfl : k = b.code.length := by omega
          have HIA : Hid (∀ q ∈ b.code, InsF f.regs q) := by have := HINS.out; rwa [List.take_length] at this
          have hzi : wr.heap[wo.heap.size]? = some (.cells #[.slice ca b.code.length cc, .int .u8 b.kind, .int .i64 b.x, .int .i64 b.to, .int .i64 b.els] 43) := (HBI.out.block _ (by have := HV1S.out; omega)).trans HZ1.out
          have HZI := Lib.hid hzi
          obtain ⟨d0, d1, d2, d3, d4⟩ := five_cells hzi
          clear hzi
          have HNOB : Hid (¬ BlkF f.regs n b → ¬ FormF f) := fun h hF => h (by have := hF.blk b (List.mem_of_getElem? HB.out); rwa [HN.out] at this)
          have HWB : Hid (∀ w', Below wr.heap.size wr w' → Below w.heap.size w w') := fun w' h => HBW.out.trans ((below_step HBWI.out h).mono HBW.out.size)
          have HFIN : Hid (BlkF f.regs n b → ∀ w', Below wr.heap.size wr w' → (∃ j' : Nat, j' ≤ n ∧ Value.int .i64 ((j : Int) + 1) = .int .i64 (j' : Int) ∧ (∀ b ∈ f.blocks.take j', BlkF f.regs n b) ∧ Below W.heap.size W w') ∧ n - (intOf (.int .i64 ((j : Int) + 1))).toNat < n - (intOf (.int .i64 (j : Int))).toNat) := fun hI w' hw => by
            refine ⟨⟨j + 1, by omega, by go_num, fun z hz => ?_, below_step HBWI.out hw⟩, by simp [intOf]; omega⟩
            rw [take_snoc HB.out] at hz
            rcases List.mem_append.1 hz with hz | hz
            · exact HALL.out z hz
            · rw [List.mem_singleton.1 hz]; exact hI
          by_cases hk1 : b.kind = 1
          · have HK := Lib.hid hk1
            have t1 : (b.kind != 1) = false := by simp [hk1]
            have t2 : (b.kind == 2) = false := by simp [hk1]
            clear hk1
            go_wp2_with fail
            clear d0 d1 d2 d3 d4
            refine (succ_any b ca cc _).mono ?_
            rintro e w3 ⟨uv, rfl, hU, hB3⟩
            obtain ⟨ua, uc, rfl⟩ : ∃ ua uc, uv = .slice ua b.succ.length uc := by
              rcases hU with ⟨h1, h2⟩ | ⟨b', off', cap, h2, _⟩
              · exact ⟨none, 0, by rw [h2, h1]; rfl⟩
              · exact ⟨_, _, h2⟩
            have HU := Lib.hid hU
            have HB3 := Lib.hid hB3
            have hul := succ_two b
            obtain ⟨un, hun⟩ : ∃ m, b.succ.length = m := ⟨_, rfl⟩
            have HUN := Lib.hid hun
            rw [hun] at hul HU ⊢
            clear hU hB3 hun
            go_wp2_with fail
            obtain ⟨wp, rfl⟩ : ∃ wp : World, wp = wr := ⟨_, rfl⟩
            go_loopw [92] (fun i wi => ∃ m : Nat, m ≤ un ∧ i = .int .i64 (m : Int) ∧ (∀ r ∈ b.succ.take m, 0 ≤ r ∧ r < (n : Int)) ∧ Below w3.heap.size w3 wi) (fun i _ => un - (intOf i).toNat)
            case atStart => exact ⟨0, Nat.zero_le _, rfl, by simp, Below.refl _ _⟩
            case round =>
              obtain ⟨m, hm, rfl, huse, hbm⟩ := hrel
              have HUSE := Lib.hid huse
              have HBM := Lib.hid hbm
              have HBM2 : Hid (Below wp.heap.size wp wr) := below_step HB3.out hbm
              have hm0 : (0 : Int) ≤ (m : Int) := by omega
              obtain ⟨y1, y3⟩ := HXC.out wr (below_step HBWI.out HBM2.out)
              have hzq : wr.heap[wo.heap.size]? = some (.cells #[.slice ca b.code.length cc, .int .u8 b.kind, .int .i64 b.x, .int .i64 b.to, .int .i64 b.els] 43) := (HBM2.out.block _ (lt_heap HZI.out)).trans HZI.out
              have HZQ := Lib.hid hzq
              clear huse hbm hzq
              by_cases hml : m < un
              · have hml2 : (m : Int) < (un : Int) := by omega
                have hmu : m < b.succ.length := by have := HUN.out; omega
                obtain ⟨r, hr⟩ : ∃ r, b.succ[m]? = some r := ⟨_, List.getElem?_eq_getElem hmu⟩
                have HR := Lib.hid hr
                rcases HU.out with ⟨h1, _⟩ | ⟨ub, uo, cap, hv3, hb1, _, hb2, hc⟩
                · have := HUN.out; rw [h1] at this; simp at this; omega
                obtain ⟨rfl⟩ : ua = some ⟨ub, uo, none⟩ := by injection hv3
                have hcell : wr.cell? ⟨ub, uo + m, none⟩ = some (.int .i64 r) := by
                  rw [World.cell?_of_block (a := ⟨ub, uo + m, none⟩) (HBM.out.block ub hb2), hc m hmu, List.getD_eq_getElem?_getD, hr]
                  rfl
                clear hv3 hb1 hb2 hc hr
                by_cases hr0 : r < 0
                · have HNO : Hid (¬ FormF f) := HNOB.out (fun h => by have := h.succ r (List.mem_of_getElem? HR.out); omega)
                  go_wp2_with fail
                  go_ret
                  exact ⟨false, rfl, ⟨fun h => by simp at h, fun h => absurd h HNO.out⟩, HWB.out _ HBM2.out⟩
                have hr0d : decide (r < 0) = false := by simpa using hr0
                by_cases hr1 : r < (n : Int)
                · have hr1d : decide ((n : Int) ≤ r) = false := by simp; omega
                  have HNX : Hid (∀ z ∈ b.succ.take (m + 1), 0 ≤ z ∧ z < (n : Int)) := fun z hz => by
                    rw [take_snoc HR.out] at hz
                    rcases List.mem_append.1 hz with hz | hz
                    · exact HUSE.out z hz
                    · rw [List.mem_singleton.1 hz]; omega
                  go_wp2_with fail
                  exact ⟨⟨m + 1, by omega, by go_num, HNX.out, HBM.out⟩, by simp [intOf]; omega⟩
                · have hr1d : (n : Int) ≤ r := by omega
                  have HNO : Hid (¬ FormF f) := HNOB.out (fun h => by have := h.succ r (List.mem_of_getElem? HR.out); omega)
                  go_wp2_with fail
                  go_ret
                  exact ⟨false, rfl, ⟨fun h => by simp at h, fun h => absurd h HNO.out⟩, HWB.out _ HBM2.out⟩
              · obtain rfl : m = un := by omega
                have HUA : Hid (∀ r ∈ b.succ, 0 ≤ r ∧ r < (n : Int)) := by have := HUSE.out; rwa [← HUN.out, List.take_length] at this
                obtain ⟨d0, d1, d2, d3, d4⟩ := five_cells HZQ.out
                have HI : Hid (BlkF f.regs n b) := ⟨HIA.out, by have := HK.out; omega, by have := HK.out; omega, HUA.out, fun h => by have := HK.out; omega⟩
                go_wp2_with fail
                exact HFIN.out HI.out _ HBM2.out
          by_cases hk2 : b.kind = 2
          · have HK := Lib.hid hk2
            have t1 : (b.kind != 1) = true := by simp [hk2]
            have t3 : (b.kind != 2) = false := by simp [hk2]
            have t2 : (b.kind == 2) = true := by simp [hk2]
            clear hk1 hk2
            go_wp2_with fail
            clear d0 d1 d2 d3 d4
            refine (succ_any b ca cc _).mono ?_
            rintro e w3 ⟨uv, rfl, hU, hB3⟩
            obtain ⟨ua, uc, rfl⟩ : ∃ ua uc, uv = .slice ua b.succ.length uc := by
              rcases hU with ⟨h1, h2⟩ | ⟨b', off', cap, h2, _⟩
              · exact ⟨none, 0, by rw [h2, h1]; rfl⟩
              · exact ⟨_, _, h2⟩
            have HU := Lib.hid hU
            have HB3 := Lib.hid hB3
            have hul := succ_two b
            obtain ⟨un, hun⟩ : ∃ m, b.succ.length = m := ⟨_, rfl⟩
            have HUN := Lib.hid hun
            rw [hun] at hul HU ⊢
            clear hU hB3 hun
            go_wp2_with fail
            obtain ⟨wp, rfl⟩ : ∃ wp : World, wp = wr := ⟨_, rfl⟩
            go_loopw [92] (fun i wi => ∃ m : Nat, m ≤ un ∧ i = .int .i64 (m : Int) ∧ (∀ r ∈ b.succ.take m, 0 ≤ r ∧ r < (n : Int)) ∧ Below w3.heap.size w3 wi) (fun i _ => un - (intOf i).toNat)
            case atStart => exact ⟨0, Nat.zero_le _, rfl, by simp, Below.refl _ _⟩
            case round =>
              obtain ⟨m, hm, rfl, huse, hbm⟩ := hrel
              have HUSE := Lib.hid huse
              have HBM := Lib.hid hbm
              have HBM2 : Hid (Below wp.heap.size wp wr) := below_step HB3.out hbm
              have hm0 : (0 : Int) ≤ (m : Int) := by omega
              obtain ⟨y1, y3⟩ := HXC.out wr (below_step HBWI.out HBM2.out)
              have hzq : wr.heap[wo.heap.size]? = some (.cells #[.slice ca b.code.length cc, .int .u8 b.kind, .int .i64 b.x, .int .i64 b.to, .int .i64 b.els] 43) := (HBM2.out.block _ (lt_heap HZI.out)).trans HZI.out
              have HZQ := Lib.hid hzq
              clear huse hbm hzq
              by_cases hml : m < un
              · have hml2 : (m : Int) < (un : Int) := by omega
                have hmu : m < b.succ.length := by have := HUN.out; omega
                obtain ⟨r, hr⟩ : ∃ r, b.succ[m]? = some r := ⟨_, List.getElem?_eq_getElem hmu⟩
                have HR := Lib.hid hr
                rcases HU.out with ⟨h1, _⟩ | ⟨ub, uo, cap, hv3, hb1, _, hb2, hc⟩
                · have := HUN.out; rw [h1] at this; simp at this; omega
                obtain ⟨rfl⟩ : ua = some ⟨ub, uo, none⟩ := by injection hv3
                have hcell : wr.cell? ⟨ub, uo + m, none⟩ = some (.int .i64 r) := by
                  rw [World.cell?_of_block (a := ⟨ub, uo + m, none⟩) (HBM.out.block ub hb2), hc m hmu, List.getD_eq_getElem?_getD, hr]
                  rfl
                clear hv3 hb1 hb2 hc hr
                by_cases hr0 : r < 0
                · have HNO : Hid (¬ FormF f) := HNOB.out (fun h => by have := h.succ r (List.mem_of_getElem? HR.out); omega)
                  go_wp2_with fail
                  go_ret
                  exact ⟨false, rfl, ⟨fun h => by simp at h, fun h => absurd h HNO.out⟩, HWB.out _ HBM2.out⟩
                have hr0d : decide (r < 0) = false := by simpa using hr0
                by_cases hr1 : r < (n : Int)
                · have hr1d : decide ((n : Int) ≤ r) = false := by simp; omega
                  have HNX : Hid (∀ z ∈ b.succ.take (m + 1), 0 ≤ z ∧ z < (n : Int)) := fun z hz => by
                    rw [take_snoc HR.out] at hz
                    rcases List.mem_append.1 hz with hz | hz
                    · exact HUSE.out z hz
                    · rw [List.mem_singleton.1 hz]; omega
                  go_wp2_with fail
                  exact ⟨⟨m + 1, by omega, by go_num, HNX.out, HBM.out⟩, by simp [intOf]; omega⟩
                · have hr1d : (n : Int) ≤ r := by omega
                  have HNO : Hid (¬ FormF f) := HNOB.out (fun h => by have := h.succ r (List.mem_of_getElem? HR.out); omega)
                  go_wp2_with fail
                  go_ret
                  exact ⟨false, rfl, ⟨fun h => by simp at h, fun h => absurd h HNO.out⟩, HWB.out _ HBM2.out⟩
              · obtain rfl : m = un := by omega
                have HUA : Hid (∀ r ∈ b.succ, 0 ≤ r ∧ r < (n : Int)) := by have := HUSE.out; rwa [← HUN.out, List.take_length] at this
                obtain ⟨d0, d1, d2, d3, d4⟩ := five_cells HZQ.out
                go_wp2_with fail
                refine (reg_any b.x f.regs w.heap.size _ y1).mono ?_
                rintro e w5 ⟨rfl, rfl⟩
                by_cases hok : 0 ≤ b.x ∧ b.x < f.regs
                · have hd : (decide (0 ≤ b.x) && decide (b.x < f.regs)) = true := by simp [hok]
                  rw [hd]
                  have HI : Hid (BlkF f.regs n b) := ⟨HIA.out, by have := HK.out; omega, by have := HK.out; omega, HUA.out, fun _ => hok⟩
                  clear hd hok
                  go_wp2_with fail
                  exact HFIN.out HI.out _ HBM2.out
                · have hd : (decide (0 ≤ b.x) && decide (b.x < f.regs)) = false := by
                    rw [Bool.and_eq_false_iff]
                    by_cases h5 : 0 ≤ b.x
                    · right; simp; have := fun h6 => hok ⟨h5, h6⟩; omega
                    · left; simpa using h5
                  rw [hd]
                  have HNO : Hid (¬ FormF f) := HNOB.out (fun h => hok (h.fin HK.out))
                  clear hd hok
                  go_wp2_with fail
                  go_ret
                  exact ⟨false, rfl, ⟨fun h => by simp at h, fun h => absurd h HNO.out⟩, HWB.out _ HBM2.out⟩
          by_cases hk3 : b.kind = 3
          · have HK := Lib.hid hk3
            have t1 : (b.kind != 1) = true := by simp [hk3]
            have t3 : (b.kind != 2) = true := by simp [hk3]
            have t4 : (b.kind != 3) = false := by simp [hk3]
            have t2 : (b.kind == 2) = false := by simp [hk3]
            clear hk1 hk2 hk3
            go_wp2_with fail
            clear d0 d1 d2 d3 d4
            refine (succ_any b ca cc _).mono ?_
            rintro e w3 ⟨uv, rfl, hU, hB3⟩
            obtain ⟨ua, uc, rfl⟩ : ∃ ua uc, uv = .slice ua b.succ.length uc := by
              rcases hU with ⟨h1, h2⟩ | ⟨b', off', cap, h2, _⟩
              · exact ⟨none, 0, by rw [h2, h1]; rfl⟩
              · exact ⟨_, _, h2⟩
            have HU := Lib.hid hU
            have HB3 := Lib.hid hB3
            have hul := succ_two b
            obtain ⟨un, hun⟩ : ∃ m, b.succ.length = m := ⟨_, rfl⟩
            have HUN := Lib.hid hun
            rw [hun] at hul HU ⊢
            clear hU hB3 hun
            go_wp2_with fail
            obtain ⟨wp, rfl⟩ : ∃ wp : World, wp = wr := ⟨_, rfl⟩
            go_loopw [92] (fun i wi => ∃ m : Nat, m ≤ un ∧ i = .int .i64 (m : Int) ∧ (∀ r ∈ b.succ.take m, 0 ≤ r ∧ r < (n : Int)) ∧ Below w3.heap.size w3 wi) (fun i _ => un - (intOf i).toNat)
            case atStart => exact ⟨0, Nat.zero_le _, rfl, by simp, Below.refl _ _⟩
            case round =>
              obtain ⟨m, hm, rfl, huse, hbm⟩ := hrel
              have HUSE := Lib.hid huse
              have HBM := Lib.hid hbm
              have HBM2 : Hid (Below wp.heap.size wp wr) := below_step HB3.out hbm
              have hm0 : (0 : Int) ≤ (m : Int) := by omega
              obtain ⟨y1, y3⟩ := HXC.out wr (below_step HBWI.out HBM2.out)
              have hzq : wr.heap[wo.heap.size]? = some (.cells #[.slice ca b.code.length cc, .int .u8 b.kind, .int .i64 b.x, .int .i64 b.to, .int .i64 b.els] 43) := (HBM2.out.block _ (lt_heap HZI.out)).trans HZI.out
              have HZQ := Lib.hid hzq
              clear huse hbm hzq
              by_cases hml : m < un
              · have hml2 : (m : Int) < (un : Int) := by omega
                have hmu : m < b.succ.length := by have := HUN.out; omega
                obtain ⟨r, hr⟩ : ∃ r, b.succ[m]? = some r := ⟨_, List.getElem?_eq_getElem hmu⟩
                have HR := Lib.hid hr
                rcases HU.out with ⟨h1, _⟩ | ⟨ub, uo, cap, hv3, hb1, _, hb2, hc⟩
                · have := HUN.out; rw [h1] at this; simp at this; omega
                obtain ⟨rfl⟩ : ua = some ⟨ub, uo, none⟩ := by injection hv3
                have hcell : wr.cell? ⟨ub, uo + m, none⟩ = some (.int .i64 r) := by
                  rw [World.cell?_of_block (a := ⟨ub, uo + m, none⟩) (HBM.out.block ub hb2), hc m hmu, List.getD_eq_getElem?_getD, hr]
                  rfl
                clear hv3 hb1 hb2 hc hr
                by_cases hr0 : r < 0
                · have HNO : Hid (¬ FormF f) := HNOB.out (fun h => by have := h.succ r (List.mem_of_getElem? HR.out); omega)
                  go_wp2_with fail
                  go_ret
                  exact ⟨false, rfl, ⟨fun h => by simp at h, fun h => absurd h HNO.out⟩, HWB.out _ HBM2.out⟩
                have hr0d : decide (r < 0) = false := by simpa using hr0
                by_cases hr1 : r < (n : Int)
                · have hr1d : decide ((n : Int) ≤ r) = false := by simp; omega
                  have HNX : Hid (∀ z ∈ b.succ.take (m + 1), 0 ≤ z ∧ z < (n : Int)) := fun z hz => by
                    rw [take_snoc HR.out] at hz
                    rcases List.mem_append.1 hz with hz | hz
                    · exact HUSE.out z hz
                    · rw [List.mem_singleton.1 hz]; omega
                  go_wp2_with fail
                  exact ⟨⟨m + 1, by omega, by go_num, HNX.out, HBM.out⟩, by simp [intOf]; omega⟩
                · have hr1d : (n : Int) ≤ r := by omega
                  have HNO : Hid (¬ FormF f) := HNOB.out (fun h => by have := h.succ r (List.mem_of_getElem? HR.out); omega)
                  go_wp2_with fail
                  go_ret
                  exact ⟨false, rfl, ⟨fun h => by simp at h, fun h => absurd h HNO.out⟩, HWB.out _ HBM2.out⟩
              · obtain rfl : m = un := by omega
                have HUA : Hid (∀ r ∈ b.succ, 0 ≤ r ∧ r < (n : Int)) := by have := HUSE.out; rwa [← HUN.out, List.take_length] at this
                obtain ⟨d0, d1, d2, d3, d4⟩ := five_cells HZQ.out
                have HI : Hid (BlkF f.regs n b) := ⟨HIA.out, by have := HK.out; omega, by have := HK.out; omega, HUA.out, fun h => by have := HK.out; omega⟩
                go_wp2_with fail
                exact HFIN.out HI.out _ HBM2.out
          have t1 : (b.kind != 1) = true := by simp [hk1]
          have t3 : (b.kind != 2) = true := by simp [hk2]
          have t4 : (b.kind != 3) = true := by simp [hk3]
          have HNO : Hid (¬ FormF f) := HNOB.out (fun h => by have := h.k0; have := h.k1; omega)
          clear hk1 hk2 hk3
          go_wp2_with fail
          go_ret
          exact ⟨false, rfl, ⟨fun h => by simp at h, fun h => absurd h HNO.out⟩, HWB.out _ (Below.refl _ _)⟩
    · obtain rfl : j = n := by omega
      go_wp2_with fail
      go_ret
      exact ⟨true, rfl, ⟨fun _ => ⟨by rw [HN.out]; exact H12.out.2.2, H12.out.1, H12.out.2.1, fun b hb => by have := HALL.out b (by rw [← HN.out, List.take_length]; exact hb); rw [HN.out]; exact this⟩, fun _ => rfl⟩, HBW.out.trans (HBEL.out.mono HBW.out.size)⟩
end Go.Proofs.YteknhnnlhhgppaaDoor
