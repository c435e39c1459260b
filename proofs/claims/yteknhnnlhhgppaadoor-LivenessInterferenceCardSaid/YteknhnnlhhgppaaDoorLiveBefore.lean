/-
  Contract: Before (package liveness).
-/
import Derived.Test.YteknhnnlhhgppaaDoorLiveOf
namespace Go.Proofs.YteknhnnlhhgppaaDoor
set_option linter.unusedVariables false
set_option linter.unusedSimpArgs false
open Go.RowKit
set_option maxRecDepth 100000
set_option maxHeartbeats 16000000

theorem use_list {o : Nat} (h : o < 4096) : useB (listB o) 0 = o := Nat.eq_of_testBit_eq fun j => by
  rw [useB_bit _ _ _ (fun r hr => by unfold listB at hr; obtain ⟨k, _, rfl⟩ := List.mem_map.1 hr; exact Int.natCast_nonneg k)]
  have := mem_list (j := j) h
  cases hb : o.testBit j with
  | true => simp [this.2 hb]
  | false =>
    have hn : ¬ (j : Int) ∈ listB o := fun hm => by rw [this.1 hm] at hb; cases hb
    simp [hn]
/-- the boxes of Before -/
theorem before_any (f : Fn) (R : Nat) (aa ba : Option Addr) (ac bc : Nat) (sin ov : Value) (B o k at_ : Nat) (b : Blk) (rout : List (Value × List Int)) (u : Value) (w : World) (hf : FnAt w f aa ba) (hF : FormF f) (hreg : f.regs = (R : Int)) (hR : R ≤ 12) (hbl : f.blocks.length ≤ 1000) (hcl : ∀ b ∈ f.blocks, b.code.length ≤ 1000000)
    (hT : TabAt 0 Lib.deBruijn64tab w) (hsin : ∃ a n c, sin = .slice a n c) (hro : IRows B w ov rout) (hrl : rout.length = f.blocks.length) (hb : f.blocks[k]? = some b) (hat : at_ ≤ b.code.length) (hu : rout[k]? = some (u, listB o)) (ho : o < 2 ^ R) :
    Calls Tryd.prog 15 #[fnVal f.name f.regs aa f.arrays.length ac ba f.blocks.length bc, .agg #[sin, ov], .int .i64 (k : Int), .int .i64 (at_ : Int)] w fun e w' => ∃ v, e = .returned v ∧ IntRow w.heap.size w' v (listB (blkB b at_ o)) ∧ Below w.heap.size w w' := by
  have hFR : FormR f R := by
    have := hF.small (by omega)
    rwa [hreg, Int.toNat_natCast] at this
  have HF := Lib.hid hf
  have HFF := Lib.hid hF
  have HFR := Lib.hid hFR
  have HCL := Lib.hid hcl
  have HTAB0 := Lib.hid hT
  have HB := Lib.hid hb
  have hkn := (List.getElem?_eq_some_iff.1 hb).1
  have hcl1 := hcl b (List.mem_of_getElem? hb)
  have HBRK := Lib.hid (hFR.blk b (List.mem_of_getElem? hb))
  obtain ⟨sia, sin', sic, rfl⟩ := hsin
  obtain ⟨ova, ovc, rfl⟩ := hro.val
  obtain ⟨ob, rfl, _, hob, _⟩ := own_some hro.ro (by omega)
  have hou : w.cell? ⟨ob, k, none⟩ = some u := own_cell hro.ro (by rw [List.getElem?_map, hu]; rfl)
  have hui := hro.ri _ (List.mem_of_getElem? hu)
  obtain ⟨ua, uc, hue⟩ := hui.val
  simp only at hue
  subst hue
  have HUI := Lib.hid hui
  have hO : Hid (o < 2 ^ R) := ho
  have hos : o < 4096 := Nat.lt_of_lt_of_le ho (Nat.pow_le_pow_right (by omega) hR)
  have HOS := Lib.hid hos
  obtain ⟨n, hn⟩ : ∃ n, f.blocks.length = n := ⟨_, rfl⟩
  have HN := Lib.hid hn
  have HREG := Lib.hid hreg
  rw [hrl, hn]
  rw [hn] at hkn hbl
  obtain ⟨W, hW⟩ : ∃ W : World, (w.alloc (.cells #[.string f.name, .int .i64 (R : Int), .slice aa f.arrays.length ac, .slice ba n bc] 25)).alloc (.cells #[.slice sia sin' sic, .slice (some ⟨ob, 0, none⟩) n ovc] 30) = W := ⟨_, rfl⟩
  have hWs : W.heap.size = w.heap.size + 2 := by rw [← hW]; simp
  have HWS := Lib.hid hWs
  have HBW : Hid (Below w.heap.size w W) := by show Below _ _ _; rw [← hW]; exact ((Below.refl _ _).alloc (Nat.le_refl _) _).alloc (by simp) _
  have HX : Hid (W.heap[w.heap.size]? = some (.cells #[.string f.name, .int .i64 (R : Int), .slice aa f.arrays.length ac, .slice ba n bc] 25)) := by
    show _ = _
    rw [← hW, Below.heap_alloc _ _ _ (by simp)]
    exact (MapKept.heap_alloc w _).1
  have HZ : Hid (W.heap[w.heap.size + 1]? = some (.cells #[.slice sia sin' sic, .slice (some ⟨ob, 0, none⟩) n ovc] 30)) := by
    show _ = _
    rw [← hW]
    exact MapKept.heap_alloc (w.alloc _) _ |>.1 |> fun h => by simpa using h
  rcases HF.out.blocks.at_ with hz | ⟨bb, off, rfl, hk⟩
  · omega
  obtain ⟨ca, cc, hba, hcode⟩ := hk k b hb
  have HBA := Lib.hid hba
  have HCODE := Lib.hid hcode
  have HXC : Hid (∀ w', Below W.heap.size W w' → (w'.cell? ⟨w.heap.size, 0, none⟩ = some (.string f.name) ∧ w'.cell? ⟨w.heap.size, 1, none⟩ = some (.int .i64 (R : Int)) ∧ w'.cell? ⟨w.heap.size, 2, none⟩ = some (.slice aa f.arrays.length ac) ∧ w'.cell? ⟨w.heap.size, 3, none⟩ = some (.slice (some ⟨bb, off, none⟩) n bc)) ∧
      (w'.cell? ⟨w.heap.size + 1, 0, none⟩ = some (.slice sia sin' sic) ∧ w'.cell? ⟨w.heap.size + 1, 1, none⟩ = some (.slice (some ⟨ob, 0, none⟩) n ovc)) ∧ BlkAt w' bb (off + k * 5) b ca cc ∧ w'.cell? ⟨ob, k, none⟩ = some (.slice ua (listB o).length uc) ∧ Below w.heap.size w w') := fun w' h => by
    have h9 := (h.block _ (show w.heap.size < W.heap.size by omega)).trans HX.out
    have h8 := (h.block _ (show w.heap.size + 1 < W.heap.size by omega)).trans HZ.out
    have h7 := HBW.out.trans (h.mono HBW.out.size)
    exact ⟨⟨cell_heap h9 0, cell_heap h9 1, cell_heap h9 2, cell_heap h9 3⟩, two_cells h8, HBA.out.below h7, cell_below h7 hou, h7⟩
  obtain ⟨⟨x0, x1, x2, x3⟩, ⟨z0, z1⟩, ⟨c0, c1, c2, c3, c4⟩, q0, _⟩ := HXC.out W (Below.refl _ _)
  have QF : Hid (∀ w', Below w.heap.size w w' → Calls Tryd.prog 40 #[.agg #[.string f.name, .int .i64 (R : Int), .slice aa f.arrays.length ac, .slice (some ⟨bb, off, none⟩) n bc]] w' (fun e w'' => e = .returned (.bool true) ∧ Below w'.heap.size w' w'')) := fun w' h => by
    have h9 := wellFormed_any f aa (some ⟨bb, off, none⟩) ac bc w' (HF.out.below h) (by rw [HN.out]; omega) HCL.out
    rw [HREG.out, HN.out] at h9
    refine h9.mono fun e w'' ⟨r, he, hr, hB⟩ => ⟨?_, hB⟩
    rw [he, hr.2 HFF.out]
  have hk0 : (0 : Int) ≤ (k : Int) := by omega
  have hk1 : (k : Int) < (n : Int) := by omega
  have hkd0 : decide ((k : Int) < 0) = false := by simp
  have hkd1 : decide ((n : Int) ≤ (k : Int)) = false := by simp; omega
  have ha0 : (0 : Int) ≤ (at_ : Int) := by omega
  have had0 : decide ((at_ : Int) < 0) = false := by simp
  have had1 : decide ((b.code.length : Int) < (at_ : Int)) = false := by simp; omega
  rw [hreg]
  clear hf hF hFR hcl hT hn hreg hWs hro hui hb hu ho hos hk hba hcode hou hrl hob
  go_enter Tryd.func15, Tryd.ntmps15
  go_wp2_with fail
  clear hW x0 x1 x2 x3 z0 z1 c0 c1 c2 c3 c4 q0
  refine (QF.out _ HBW.out).mono ?_
  rintro e w0 ⟨rfl, hB⟩
  have HB0 := Lib.hid hB
  obtain ⟨⟨x0, x1, x2, x3⟩, ⟨z0, z1⟩, ⟨c0, c1, c2, c3, c4⟩, q0, hb9⟩ := HXC.out w0 hB
  have HB9 := Lib.hid hb9
  clear hB hb9
  go_wp2_with fail
  clear x0 x1 x2 x3 z0 z1 c0 c1 c2 c3 c4 q0
  refine (empty_any R _ hR).mono ?_
  rintro e w1 ⟨ev, rfl, hE, hB1⟩
  have HE := Lib.hid hE
  have HB1 : Hid (Below W.heap.size W w1) := below_step HB0.out hB1
  have HB01 := Lib.hid hB1
  obtain ⟨⟨x0, x1, x2, x3⟩, ⟨z0, z1⟩, ⟨c0, c1, c2, c3, c4⟩, q0, hb9⟩ := HXC.out w1 HB1.out
  obtain ⟨ea, ec, rfl⟩ := ownsRow_val hE.row
  have HLL : Hid ((listB o).length ≤ 12) := list_len o
  have hll := list_len o
  clear hE hB1 hb9
  go_wp2_with fail
  clear x0 x1 x2 x3 z0 z1 c0 c1 c2 c3 c4 q0
  go_loopw [58] (fun i wr => ∃ m : Nat, m ≤ (listB o).length ∧ i = .int .i64 (m : Int) ∧ SetV w0.heap.size R wr (.slice ea (nw R) ec) (useB ((listB o).take m) 0) ∧ Turn (.slice ea (nw R) ec) w1 wr) (fun i _ => (listB o).length - (intOf i).toNat)
  case atStart => exact ⟨0, Nat.zero_le _, rfl, HE.out, Turn.refl _ _⟩
  case round =>
    obtain ⟨m, hm, rfl, hS, hT⟩ := hrel
    have HS := Lib.hid hS
    have HT := Lib.hid hT
    have HBT : Hid (Below W.heap.size W wr) := HB1.out.trans (hT.below HB1.out.size (fun k hk => by
      have h8 := (HE.out.own hk).1
      have h9 := HB0.out.size
      omega))
    have hm0 : (0 : Int) ≤ (m : Int) := by omega
    obtain ⟨⟨x0, x1, x2, x3⟩, ⟨z0, z1⟩, ⟨c0, c1, c2, c3, c4⟩, q0, hb9⟩ := HXC.out wr HBT.out
    have HB9 := Lib.hid hb9
    clear hS hT hb9
    by_cases hml : m < (listB o).length
    · have hml2 : (m : Int) < ((listB o).length : Int) := by omega
      obtain ⟨q, hq⟩ : ∃ q, (listB o)[m]? = some q := ⟨_, List.getElem?_eq_getElem hml⟩
      have HQ := Lib.hid hq
      obtain ⟨hq0, hq1⟩ := list_in hO.out (List.mem_of_getElem? hq)
      obtain ⟨r, rfl⟩ : ∃ r : Nat, q = (r : Int) := ⟨q.toNat, by omega⟩
      have hrR : r < R := by omega
      obtain ⟨ub, rfl, _⟩ := own_some HUI.out (by exact Nat.lt_of_le_of_lt (Nat.zero_le _) hml)
      have hcell : wr.cell? ⟨ub, m, none⟩ = some (.int .i64 (r : Int)) := own_cell (HUI.out.keep HB9.out) (by rw [List.getElem?_map, hq]; rfl)
      have HNX : Hid (useB ((listB o).take (m + 1)) 0 = addB (useB ((listB o).take m) 0) r) := by
        show _ = _
        unfold useB
        rw [take_snoc hq, List.foldl_append]
        rfl
      clear hq
      go_wp2_with fail
      refine (add_any r _ HS.out hrR).mono ?_
      rintro e w4 ⟨⟨u4, rfl⟩, hA, hT4⟩
      have HA := Lib.hid hA
      have HT4 := Lib.hid hT4
      clear hA hT4 x0 x1 x2 x3 z0 z1 c0 c1 c2 c3 c4 q0
      go_wp2_with fail
      exact ⟨⟨m + 1, by omega, by go_num, by rw [HNX.out]; exact HA.out, HT.out.trans HT4.out⟩, by simp [intOf]; omega⟩
    · obtain rfl : m = (listB o).length := by omega
      have HS2 : Hid (SetV w0.heap.size R wr (.slice ea (nw R) ec) o) := by
        have h9 := HS.out
        rw [List.take_length, use_list HOS.out] at h9
        exact h9
      obtain ⟨V1, hV1⟩ : ∃ V1 : World, wr.alloc (.cells #[.slice ca b.code.length cc, .int .u8 b.kind, .int .i64 b.x, .int .i64 b.to, .int .i64 b.els] 43) = V1 := ⟨_, rfl⟩
      have HBV1 : Hid (Below wr.heap.size wr V1) := by show Below _ _ _; rw [← hV1]; exact (Below.refl _ _).alloc (Nat.le_refl _) _
      have HZ1 : Hid (V1.heap[wr.heap.size]? = some (.cells #[.slice ca b.code.length cc, .int .u8 b.kind, .int .i64 b.x, .int .i64 b.to, .int .i64 b.els] 43)) := by
        show _ = _
        rw [← hV1]
        exact (MapKept.heap_alloc wr _).1
      have HBT1 : Hid (Below W.heap.size W V1) := below_step HBT.out HBV1.out
      obtain ⟨d0, d1, d2, d3, d4⟩ := five_cells HZ1.out
      go_wp2_with fail
      clear hV1 x0 x1 x2 x3 z0 z1 c0 c1 c2 c3 c4 q0 d0 d1 d2 d3 d4
      refine (last_any b ca cc _ (HS2.out.keep HBV1.out) HBRK.out.fin).mono ?_
      rintro e w5 ⟨lv, rfl, hL, hB5⟩
      obtain ⟨lva, lvc, rfl⟩ := ownsRow_val hL.row
      have HBT5 : Hid (Below W.heap.size W w5) := below_step HBT1.out hB5
      have HL : Hid (SetV W.heap.size R w5 (.slice lva (nw R) lvc) (blkB b b.code.length o)) := by
        show SetV _ _ _ _ _
        rw [blkB_end]
        exact hL.base HBT1.out.size
      have HZ5 : Hid (w5.heap[wr.heap.size]? = some (.cells #[.slice ca b.code.length cc, .int .u8 b.kind, .int .i64 b.x, .int .i64 b.to, .int .i64 b.els] 43)) := (hB5.block _ (lt_heap HZ1.out)).trans HZ1.out
      obtain ⟨d0, d1, d2, d3, d4⟩ := five_cells HZ5.out
      have hcl0 : (0 : Int) ≤ (b.code.length : Int) := by omega
      clear hL hB5
      go_wp2_with fail
      clear d0 d1 d2 d3 d4
      obtain ⟨wq, rfl⟩ : ∃ wq : World, wq = wr := ⟨_, rfl⟩
      go_loopw [14] (fun i wi => ∃ m : Nat, at_ ≤ m ∧ m ≤ b.code.length ∧ i = .int .i64 ((m : Int) - 1) ∧ SetV W.heap.size R wi (.slice lva (nw R) lvc) (blkB b m o) ∧ Below W.heap.size W wi ∧ wi.heap[wq.heap.size]? = some (.cells #[.slice ca b.code.length cc, .int .u8 b.kind, .int .i64 b.x, .int .i64 b.to, .int .i64 b.els] 43)) (fun i _ => (intOf i + 1).toNat)
      case atStart => exact ⟨b.code.length, hat, Nat.le_refl _, rfl, HL.out, HBT5.out, HZ5.out⟩
      case round =>
        obtain ⟨m, hma, hm, rfl, hlm, hbm, hzm⟩ := hrel
        have HLM := Lib.hid hlm
        have HBM := Lib.hid hbm
        have HZM := Lib.hid hzm
        clear hlm hbm
        obtain ⟨d0, d1, d2, d3, d4⟩ := five_cells hzm
        clear hzm
        rcases Nat.eq_or_lt_of_le hma with rfl | hmp
        · have e0 : ¬ ((at_ : Int) ≤ (at_ : Int) - 1) := by omega
          have e1 : decide ((at_ : Int) ≤ (at_ : Int) - 1) = false := by simp; omega
          have HTW : Hid (TabAt 0 Lib.deBruijn64tab wr) := tab_keep HTAB0.out (HBW.out.trans (HBM.out.mono HBW.out.size))
          clear d0 d1 d2 d3 d4
          go_wp2_with fail
          refine (list_any _ HLM.out HTW.out).mono ?_
          rintro e w6 ⟨rv, rfl, hR6, hB6⟩
          have HR6 := Lib.hid hR6
          have HB6 : Hid (Below W.heap.size W w6) := below_step HBM.out hB6
          obtain ⟨ra, rc, rfl⟩ := hR6.val
          have hsz : Hid (w.heap.size ≤ wr.heap.size) := Nat.le_trans HBW.out.size HBM.out.size
          clear hR6 hB6
          go_wp2_with fail
          go_ret
          exact ⟨_, rfl, ownsRow_base HR6.out hsz.out, HBW.out.trans (HB6.out.mono HBW.out.size)⟩
        · obtain ⟨m', rfl⟩ : ∃ m', m = m' + 1 := ⟨m - 1, by omega⟩
          have e0 : ((m' + 1 : Nat) : Int) - 1 = (m' : Int) := by omega
          rw [e0]
          have hm0 : (0 : Int) ≤ (m' : Int) := by omega
          have hm1 : m' < b.code.length := by omega
          have hm2 : (m' : Int) < (b.code.length : Int) := by omega
          have hm3 : (at_ : Int) ≤ (m' : Int) := by omega
          obtain ⟨q, hq⟩ : ∃ q, b.code[m']? = some q := ⟨_, List.getElem?_eq_getElem hm1⟩
          have HQ := Lib.hid hq
          rcases HCODE.out.at_ with h0 | ⟨cb, co, rfl, hcc⟩
          · omega
          obtain ⟨c0, c1, c2, c3, c4, c5⟩ := (hcc m' q hq).below (HBW.out.trans (HBM.out.mono HBW.out.size))
          clear e0 hcc hq hmp
          go_wp2_with fail
          refine (back_any q _ HLM.out (HBRK.out.ins q (List.mem_of_getElem? HQ.out)).2.2 HBM.out.size).mono ?_
          rintro e w6 ⟨⟨u6, rfl⟩, hA, hT⟩
          have HLN : Hid (SetV W.heap.size R w6 (.slice lva (nw R) lvc) (blkB b m' o)) := by
            show SetV _ _ _ _ _
            rw [blkB_step HQ.out]
            exact hA
          have HBN : Hid (Below W.heap.size W w6) := HBM.out.trans (hT.below HBM.out.size (fun k hk => (HLM.out.own hk).1))
          have HZN : Hid (w6.heap[wq.heap.size]? = some (.cells #[.slice (some ⟨cb, co, none⟩) b.code.length cc, .int .u8 b.kind, .int .i64 b.x, .int .i64 b.to, .int .i64 b.els] 43)) := block_other HLM.out.row HZM.out (by decide) hT
          clear hA hT c0 c1 c2 c3 c4 c5 d0 d1 d2 d3 d4
          go_wp2_with fail
          exact ⟨⟨m', by omega, by omega, rfl, HLN.out, HBN.out, HZN.out⟩, by simp [intOf]⟩
/-- a point that is none, or a function that is not well-formed -/
theorem before_none (f : Fn) (aa ba : Option Addr) (ac bc : Nat) (sin ov : Value) (k at_ : Int) (w : World) (hf : FnAt w f aa ba) (hbl : f.blocks.length ≤ 1000) (hcl : ∀ b ∈ f.blocks, b.code.length ≤ 1000000)
    (hs1 : ∃ a n c, sin = .slice a n c) (hs2 : ∃ a n c, ov = .slice a n c) (hno : FormF f → k < 0 ∨ (f.blocks.length : Int) ≤ k ∨ ∃ b, 0 ≤ k ∧ f.blocks[k.toNat]? = some b ∧ (at_ < 0 ∨ (b.code.length : Int) < at_)) :
    Calls Tryd.prog 15 #[fnVal f.name f.regs aa f.arrays.length ac ba f.blocks.length bc, .agg #[sin, ov], .int .i64 k, .int .i64 at_] w fun e w' => e = .returned (.slice none 0 0) ∧ Below w.heap.size w w' := by
  obtain ⟨sia, sin', sic, rfl⟩ := hs1
  obtain ⟨oa, on, oc, rfl⟩ := hs2
  have HF := Lib.hid hf
  have HNO := Lib.hid hno
  have HCL := Lib.hid hcl
  obtain ⟨n, hn⟩ : ∃ n, f.blocks.length = n := ⟨_, rfl⟩
  have HN := Lib.hid hn
  obtain ⟨W, hW⟩ : ∃ W : World, (w.alloc (.cells #[.string f.name, .int .i64 f.regs, .slice aa f.arrays.length ac, .slice ba n bc] 25)).alloc (.cells #[.slice sia sin' sic, .slice oa on oc] 30) = W := ⟨_, rfl⟩
  have hWs : W.heap.size = w.heap.size + 2 := by rw [← hW]; simp
  have HBW : Hid (Below w.heap.size w W) := by show Below _ _ _; rw [← hW]; exact ((Below.refl _ _).alloc (Nat.le_refl _) _).alloc (by simp) _
  have HX : Hid (W.heap[w.heap.size]? = some (.cells #[.string f.name, .int .i64 f.regs, .slice aa f.arrays.length ac, .slice ba n bc] 25)) := by
    show _ = _
    rw [← hW, Below.heap_alloc _ _ _ (by simp)]
    exact (MapKept.heap_alloc w _).1
  have HXC : Hid (∀ w', Below W.heap.size W w' → w'.cell? ⟨w.heap.size, 0, none⟩ = some (.string f.name) ∧ w'.cell? ⟨w.heap.size, 1, none⟩ = some (.int .i64 f.regs) ∧ w'.cell? ⟨w.heap.size, 2, none⟩ = some (.slice aa f.arrays.length ac) ∧ w'.cell? ⟨w.heap.size, 3, none⟩ = some (.slice ba n bc)) := fun w' h => by
    have h9 := (h.block _ (show w.heap.size < W.heap.size by omega)).trans HX.out
    exact ⟨cell_heap h9 0, cell_heap h9 1, cell_heap h9 2, cell_heap h9 3⟩
  have QF : Hid (∀ w', Below w.heap.size w w' → Calls Tryd.prog 40 #[.agg #[.string f.name, .int .i64 f.regs, .slice aa f.arrays.length ac, .slice ba n bc]] w' (Tells (FormF f) w')) := fun w' h => by
    have h9 := wellFormed_any f aa ba ac bc w' (HF.out.below h) (by rw [HN.out]; omega) HCL.out
    rw [HN.out] at h9
    exact h9
  obtain ⟨x0, x1, x2, x3⟩ := HXC.out W (Below.refl _ _)
  rw [hn]
  rw [hn] at hbl
  clear hf hno hcl hn
  go_enter Tryd.func15, Tryd.ntmps15
  go_wp2_with fail
  clear hW x0 x1 x2 x3
  refine (QF.out _ HBW.out).mono ?_
  rintro e w0 ⟨r, rfl, hr, hB⟩
  have HB0 : Hid (Below w.heap.size w w0) := below_step HBW.out hB
  have HR := Lib.hid hr
  obtain ⟨x0, x1, x2, x3⟩ := HXC.out w0 hB
  clear hB hr
  cases r with
  | false =>
    go_wp2_with fail
    go_ret
    exact ⟨rfl, HB0.out⟩
  | true =>
    by_cases hk0 : k < 0
    · go_wp2_with fail
      go_ret
      exact ⟨rfl, HB0.out⟩
    have hk0d : decide (k < 0) = false := by simpa using hk0
    by_cases hk1 : (n : Int) ≤ k
    · go_wp2_with fail
      go_ret
      exact ⟨rfl, HB0.out⟩
    have hk1d : decide ((n : Int) ≤ k) = false := by simpa using hk1
    obtain ⟨b, hk2, hb, hat⟩ : ∃ b, 0 ≤ k ∧ f.blocks[k.toNat]? = some b ∧ (at_ < 0 ∨ (b.code.length : Int) < at_) := by
      rcases HNO.out (HR.out.1 rfl) with h | h | h
      · exact absurd h hk0
      · rw [HN.out] at h; exact absurd h hk1
      · exact h
    rcases HF.out.blocks.at_ with hz | ⟨bb, off, rfl, hkk⟩
    · have := (List.getElem?_eq_some_iff.1 hb).1; omega
    obtain ⟨ca, cc, hba, _⟩ := hkk k.toNat b hb
    obtain ⟨m, rfl⟩ : ∃ m : Nat, k = (m : Int) := ⟨k.toNat, by omega⟩
    rw [Int.toNat_natCast] at hba
    obtain ⟨c0, c1, c2, c3, c4⟩ := hba.below HB0.out
    have hm2 : (m : Int) < (n : Int) := by omega
    by_cases ha0 : at_ < 0
    · clear hkk hba hb hat
      go_wp2_with fail
      go_ret
      exact ⟨rfl, HB0.out⟩
    have ha0d : decide (at_ < 0) = false := by simpa using ha0
    have ha1 : (b.code.length : Int) < at_ := by omega
    clear hkk hba hb hat
    go_wp2_with fail
    go_ret
    exact ⟨rfl, HB0.out⟩
end Go.Proofs.YteknhnnlhhgppaaDoor
