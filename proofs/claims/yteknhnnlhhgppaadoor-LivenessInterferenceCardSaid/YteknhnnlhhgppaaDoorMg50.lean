/-
  Mg50: several texts in one (LiveAwake, LiveRows).
-/
import Derived.Test.YteknhnnlhhgppaaDoorMg27
import Derived.Test.YteknhnnlhhgppaaDoorLiveBefore
import Derived.Test.YteknhnnlhhgppaaDoorLiveInter
import Derived.Test.YteknhnnlhhgppaaDoorLiveOf
/-
  The example of the chapter holds: awake (package ontimelaw19).
-/
namespace Go.Proofs.YteknhnnlhhgppaaDoor
set_option linter.unusedVariables false
set_option linter.unusedSimpArgs false
open Go.RowKit
set_option maxRecDepth 100000
set_option maxHeartbeats 16000000

def code0 : List Ins := [⟨1, 0, 0, 0, 1, ⟨#[]⟩⟩, ⟨1, 1, 0, 0, 2, ⟨#[]⟩⟩, ⟨3, 0, 0, 1, 6, ⟨#[]⟩⟩, ⟨10, 0, 0, 0, 0, ⟨#[]⟩⟩]
def blk0 : Blk := ⟨code0, 3, 0, 0, 0⟩
def f0 : Fn := ⟨⟨#[]⟩, 2, [], [blk0]⟩
theorem form0 : FormF f0 := by
  refine ⟨by decide, by decide, by decide, fun b hb => ?_⟩
  obtain rfl : b = blk0 := by simpa [f0] using hb
  refine ⟨fun i hi => ?_, by decide, by decide, fun t ht => by simp [blk0, Blk.succ] at ht, fun h => by simp [blk0] at h⟩
  simp only [blk0, code0, List.mem_cons, List.not_mem_nil, or_false] at hi
  rcases hi with rfl | rfl | rfl | rfl <;>
    exact ⟨by decide, by decide, by simp [Ins.uses, f0], by simp [Ins.defines, f0]⟩
theorem sol0 {ins outs : List Nat} (h : Sol f0 2 ins outs) : outs = [0] ∧ ins = [0] := by
  have ho : outs.getD 0 0 = 0 := Nat.eq_of_testBit_eq fun j => by
    have h9 := h.eqo 0 blk0 rfl j
    cases hb : (outs.getD 0 0).testBit j with
    | false => simp
    | true =>
      obtain ⟨t, ht, _⟩ := h9.1 hb
      simp [blk0, Blk.succ] at ht
  have hi : ins.getD 0 0 = 0 := by
    rw [h.eqi 0 blk0 rfl, ho]
    decide
  have hlo := h.lo
  have hli := h.li
  simp only [f0, List.length_singleton] at hlo hli
  match outs, hlo, ho, ins, hli, hi with
  | [o], _, ho, [i], _, hi =>
    have h1 : o = 0 := ho
    have h2 : i = 0 := hi
    rw [h1, h2]
    exact ⟨rfl, rfl⟩
theorem def0 {a c : Nat} : DefS f0 [0] 1 0 a c ↔ (a = 0 ∧ c = 0) ∨ (a = 1 ∧ c = 0) ∨ (a = 1 ∧ c = 1) := by
  constructor
  · rintro ⟨k', bl, i', q, _, h1, h2, h3, h4⟩
    match k', h1, h4 with
    | 0, h1, h4 =>
      obtain rfl : blk0 = bl := Option.some.inj h1
      have h4 : (blkB blk0 (i' + 1) 0).testBit c = true := h4
      match i', h2, h4 with
      | 0, h2, h4 =>
        obtain rfl := Option.some.inj h2
        have e : (0 : Int) = (a : Int) := Option.some.inj h3
        have e2 : blkB blk0 1 0 = 2 ^ 0 := by decide
        rw [show (0 : Nat) + 1 = 1 from rfl, e2, two_bit] at h4
        exact .inl ⟨by omega, h4⟩
      | 1, h2, h4 =>
        obtain rfl := Option.some.inj h2
        have e : (1 : Int) = (a : Int) := Option.some.inj h3
        have e2 : blkB blk0 2 0 = addB (2 ^ 0) 1 := by decide
        rw [show (1 : Nat) + 1 = 2 from rfl, e2, addB_bit, Bool.or_eq_true, two_bit] at h4
        rcases h4 with h4 | h4
        · exact .inr (.inl ⟨by omega, h4⟩)
        · exact .inr (.inr ⟨by omega, by simpa using h4⟩)
      | 2, h2, h4 =>
        obtain rfl := Option.some.inj h2
        have e : (0 : Int) = (a : Int) := Option.some.inj h3
        have e2 : blkB blk0 3 0 = 2 ^ 0 := by decide
        rw [show (2 : Nat) + 1 = 3 from rfl, e2, two_bit] at h4
        exact .inl ⟨by omega, h4⟩
      | 3, h2, h4 =>
        obtain rfl := Option.some.inj h2
        simp [Ins.defines] at h3
  · rintro (⟨rfl, rfl⟩ | ⟨rfl, rfl⟩ | ⟨rfl, rfl⟩)
    · exact ⟨0, blk0, 0, ⟨1, 0, 0, 0, 1, ⟨#[]⟩⟩, by omega, rfl, rfl, rfl, by decide⟩
    · exact ⟨0, blk0, 1, ⟨1, 1, 0, 0, 2, ⟨#[]⟩⟩, by omega, rfl, rfl, rfl, by decide⟩
    · exact ⟨0, blk0, 1, ⟨1, 1, 0, 0, 2, ⟨#[]⟩⟩, by omega, rfl, rfl, rfl, by decide⟩
theorem four0 : ∀ s : Nat, s < 4 → s.testBit 0 = false → s.testBit 1 = true → s = 2 := by decide
theorem four1 : ∀ s : Nat, s < 4 → s.testBit 0 = true → s.testBit 1 = false → s = 1 := by decide
theorem inter0 {ins outs ss : List Nat} (h : Sol f0 2 ins outs) (hl : ss.length = 2) (hb : ∀ a c, a < 2 → ((ss.getD a 0).testBit c = true ↔ SymP (DefS f0 outs f0.blocks.length 0) 2 a c)) (hs : ∀ s ∈ ss, s < 2 ^ 2) : ss = [2, 1] := by
  obtain ⟨rfl, _⟩ := sol0 h
  have hb2 : ∀ a c, a < 2 → ((ss.getD a 0).testBit c = true ↔ SymP (DefS f0 [0] 1 0) 2 a c) := hb
  match ss, hl, hb2, hs with
  | [s, t], _, hb2, hs =>
    have n1 : s.testBit 0 = false := by
      have h9 := hb2 0 0 (by omega)
      cases hc : s.testBit 0 with
      | false => rfl
      | true =>
        have := h9.1 hc
        unfold SymP at this
        simp at this
    have n2 : s.testBit 1 = true := (hb2 0 1 (by omega)).2 (.inr ⟨by omega, by omega, def0.2 (.inr (.inl ⟨rfl, rfl⟩))⟩)
    have n3 : t.testBit 0 = true := (hb2 1 0 (by omega)).2 (.inl ⟨def0.2 (.inr (.inl ⟨rfl, rfl⟩)), by omega⟩)
    have n4 : t.testBit 1 = false := by
      have h9 := hb2 1 1 (by omega)
      cases hc : t.testBit 1 with
      | false => rfl
      | true =>
        have := h9.1 hc
        unfold SymP at this
        simp at this
    have m1 := hs s (by simp)
    have m2 := hs t (by simp)
    rw [four0 s m1 n1 n2, four1 t m2 n3 n4]
theorem lit_one {w : World} {x : Int} {t : TypeId} : IntsAt (w.alloc (.cells #[.int .i64 x] t)) (.slice (some ⟨w.heap.size, 0, none⟩) 1 1) [x] := by
  refine ⟨_, 1, rfl, .inr ⟨_, 0, rfl, by simp, fun i y hy => ?_⟩⟩
  match i, hy with
  | 0, hy => obtain rfl := Option.some.inj hy; exact World.cell?_alloc_new _ _ _ 0
theorem lit_two {w : World} {x y : Int} {t : TypeId} : IntsAt (w.alloc (.cells #[.int .i64 x, .int .i64 y] t)) (.slice (some ⟨w.heap.size, 0, none⟩) 2 2) [x, y] := by
  refine ⟨_, 2, rfl, .inr ⟨_, 0, rfl, by simp, fun i z hz => ?_⟩⟩
  match i, hz with
  | 0, hz => obtain rfl := Option.some.inj hz; exact World.cell?_alloc_new _ _ _ 0
  | 1, hz => obtain rfl := Option.some.inj hz; exact World.cell?_alloc_new _ _ _ 1
theorem awake_any (w : World) (hT : TabAt 0 Lib.deBruijn64tab w) : Calls Tryd.prog 10 #[] w fun e w' => e = .returned (.bool true) ∧ Below w.heap.size w w' := by
  have HT := Lib.hid hT
  clear hT
  go_enter Tryd.func10, Tryd.ntmps10
  go_wp2_with fail
  refine (ins_any 1 0 0 0 1 _).mono ?_
  rintro e w1 ⟨rfl, hB1⟩
  have HB1 := Lib.hid hB1
  clear hB1
  go_wp2_with fail
  refine (ins_any 1 1 0 0 2 _).mono ?_
  rintro e w2 ⟨rfl, hB2⟩
  have HB2 := Lib.hid (below_step HB1.out hB2)
  clear hB2
  go_wp2_with fail
  refine (ins_any 3 0 0 1 6 _).mono ?_
  rintro e w3 ⟨rfl, hB3⟩
  have HB3 := Lib.hid (below_step HB2.out hB3)
  clear hB3
  go_wp2_with fail
  refine (ins_any 10 0 0 0 0 _).mono ?_
  rintro e w4 ⟨rfl, hB4⟩
  have HB4 := Lib.hid (below_step HB3.out hB4)
  clear hB4
  obtain ⟨V, hV⟩ : ∃ V : World, ((w4.alloc (.cells #[.int .u8 1, .int .i64 0, .int .i64 0, .int .i64 0, .int .i64 1, .string ⟨#[]⟩, .int .u8 1, .int .i64 1, .int .i64 0, .int .i64 0, .int .i64 2, .string ⟨#[]⟩, .int .u8 3, .int .i64 0, .int .i64 0, .int .i64 1, .int .i64 6, .string ⟨#[]⟩, .int .u8 10, .int .i64 0, .int .i64 0, .int .i64 0, .int .i64 0, .string ⟨#[]⟩] 54)).alloc (.cells #[.slice (some ⟨w4.heap.size, 0, none⟩) 4 4, .int .u8 3, .int .i64 0, .int .i64 0, .int .i64 0] 43)).alloc (.cells #[.string ⟨#[]⟩, .int .i64 2, .slice none 0 0, .slice (some ⟨w4.heap.size + 1, 0, none⟩) 1 1] 25) = V := ⟨_, rfl⟩
  have HV1 : Hid (V.heap[w4.heap.size]? = some (.cells #[.int .u8 1, .int .i64 0, .int .i64 0, .int .i64 0, .int .i64 1, .string ⟨#[]⟩, .int .u8 1, .int .i64 1, .int .i64 0, .int .i64 0, .int .i64 2, .string ⟨#[]⟩, .int .u8 3, .int .i64 0, .int .i64 0, .int .i64 1, .int .i64 6, .string ⟨#[]⟩, .int .u8 10, .int .i64 0, .int .i64 0, .int .i64 0, .int .i64 0, .string ⟨#[]⟩] 54)) := by
    show _ = _
    rw [← hV, Below.heap_alloc _ _ _ (by simp; omega), Below.heap_alloc _ _ _ (by simp)]
    exact (MapKept.heap_alloc w4 _).1
  have HV2 : Hid (V.heap[w4.heap.size + 1]? = some (.cells #[.slice (some ⟨w4.heap.size, 0, none⟩) 4 4, .int .u8 3, .int .i64 0, .int .i64 0, .int .i64 0] 43)) := by
    show _ = _
    rw [← hV, Below.heap_alloc _ _ _ (by simp)]
    exact MapKept.heap_alloc (w4.alloc _) _ |>.1 |> fun h => by simpa using h
  have HV3 : Hid (V.heap[w4.heap.size + 1 + 1]? = some (.cells #[.string ⟨#[]⟩, .int .i64 2, .slice none 0 0, .slice (some ⟨w4.heap.size + 1, 0, none⟩) 1 1] 25)) := by
    show _ = _
    rw [← hV]
    exact MapKept.heap_alloc ((w4.alloc _).alloc _) _ |>.1 |> fun h => by simpa using h
  have HVB : Hid (Below w.heap.size w V) := by
    show Below _ _ _
    rw [← hV]
    exact HB4.out.trans ((((Below.refl _ _).alloc HB4.out.size _).alloc (Nat.le_trans HB4.out.size (by simp)) _).alloc (Nat.le_trans HB4.out.size (by simp; omega)) _)
  have HFN : Hid (FnAt V f0 none (some ⟨w4.heap.size + 1, 0, none⟩)) := by
    refine ⟨⟨by decide, by simp [f0], .inl rfl⟩, ⟨by decide, fun x hx => ?_, .inr ⟨_, 0, rfl, fun k x hx => ?_⟩⟩, by unfold isI64; decide, by decide⟩
    · obtain rfl : x = blk0 := by simpa [f0] using hx
      exact ⟨by decide, by decide, by unfold isI64; decide, by unfold isI64; decide, by unfold isI64; decide⟩
    · match k, hx with
      | 0, hx =>
        obtain rfl : blk0 = x := Option.some.inj hx
        obtain ⟨d0, d1, d2, d3, d4⟩ := five_cells HV2.out
        refine ⟨some ⟨w4.heap.size, 0, none⟩, 4, ⟨d0, d1, d2, d3, d4⟩, ⟨by decide, fun i hi => ?_, .inr ⟨_, 0, rfl, fun m i hi => ?_⟩⟩⟩
        · simp only [blk0, code0, List.mem_cons, List.not_mem_nil, or_false] at hi
          rcases hi with rfl | rfl | rfl | rfl <;>
            exact ⟨by decide, by decide, by unfold isI64; decide, by unfold isI64; decide, by unfold isI64; decide, by unfold isI64; decide, by decide⟩
        · match m, hi with
          | 0, hi => obtain rfl := Option.some.inj hi; exact ⟨cell_heap HV1.out 0, cell_heap HV1.out 1, cell_heap HV1.out 2, cell_heap HV1.out 3, cell_heap HV1.out 4, cell_heap HV1.out 5⟩
          | 1, hi => obtain rfl := Option.some.inj hi; exact ⟨cell_heap HV1.out 6, cell_heap HV1.out 7, cell_heap HV1.out 8, cell_heap HV1.out 9, cell_heap HV1.out 10, cell_heap HV1.out 11⟩
          | 2, hi => obtain rfl := Option.some.inj hi; exact ⟨cell_heap HV1.out 12, cell_heap HV1.out 13, cell_heap HV1.out 14, cell_heap HV1.out 15, cell_heap HV1.out 16, cell_heap HV1.out 17⟩
          | 3, hi => obtain rfl := Option.some.inj hi; exact ⟨cell_heap HV1.out 18, cell_heap HV1.out 19, cell_heap HV1.out 20, cell_heap HV1.out 21, cell_heap HV1.out 22, cell_heap HV1.out 23⟩
  have hcl : ∀ b ∈ f0.blocks, b.code.length ≤ 1000000 := fun b hb => by
    obtain rfl : b = blk0 := by simpa [f0] using hb
    decide
  have HCL := Lib.hid hcl
  have x0 : V.cell? ⟨w4.heap.size + 1 + 1, 0, none⟩ = some (.string ⟨#[]⟩) := cell_heap HV3.out 0
  have x1 : V.cell? ⟨w4.heap.size + 1 + 1, 1, none⟩ = some (.int .i64 2) := cell_heap HV3.out 1
  have x2 : V.cell? ⟨w4.heap.size + 1 + 1, 2, none⟩ = some (.slice none 0 0) := cell_heap HV3.out 2
  have x3 : V.cell? ⟨w4.heap.size + 1 + 1, 3, none⟩ = some (.slice (some ⟨w4.heap.size + 1, 0, none⟩) 1 1) := cell_heap HV3.out 3
  go_wp2_with fail
  clear hV hcl x0 x1 x2 x3
  refine (of_any f0 2 none (some ⟨w4.heap.size + 1, 0, none⟩) 0 1 V HFN.out form0 rfl (by decide) (by decide) HCL.out (tab_keep HT.out HVB.out)).mono ?_
  rintro e w5 ⟨iv, ov, rin, rout, ins, outs, rfl, hri, hro, hsol, hm1, hm2, hB5⟩
  obtain ⟨rfl, rfl⟩ := sol0 hsol
  have HB5 : Hid (Below w.heap.size w w5) := HVB.out.trans (hB5.mono HVB.out.size)
  obtain ⟨iu, rfl⟩ : ∃ iu, rin = [(iu, [])] := by
    match rin, hm1 with
    | [(iu, l)], hm1 =>
      have : l = [] := by simpa [show listB 0 = [] by decide] using hm1
      exact ⟨iu, by rw [this]⟩
  obtain ⟨ou, rfl⟩ : ∃ ou, rout = [(ou, [])] := by
    match rout, hm2 with
    | [(ou, l)], hm2 =>
      have : l = [] := by simpa [show listB 0 = [] by decide] using hm2
      exact ⟨ou, by rw [this]⟩
  obtain ⟨iva, ivc, rfl⟩ := hri.val
  obtain ⟨ova, ovc, rfl⟩ := hro.val
  simp only [List.length_singleton]
  obtain ⟨ib, rfl, _, hib, _⟩ := own_some hri.ro (by simp)
  have HRI := Lib.hid hri
  have HRO := Lib.hid hro
  obtain ⟨iua, iuc, rfl⟩ : ∃ a c, iu = .slice a 0 c := (hri.ri _ (List.mem_singleton.2 rfl)).val
  have HF5 := Lib.hid (HFN.out.below hB5)
  have HV5 : Hid (w5.heap[w4.heap.size + 1 + 1]? = some (.cells #[.string ⟨#[]⟩, .int .i64 2, .slice none 0 0, .slice (some ⟨w4.heap.size + 1, 0, none⟩) 1 1] 25)) := (hB5.block _ (lt_heap HV3.out)).trans HV3.out
  obtain ⟨V6, hV6⟩ : ∃ V6 : World, w5.alloc (.cells #[.slice (some ⟨ib, 0, none⟩) 1 ivc, .slice ova 1 ovc] 30) = V6 := ⟨_, rfl⟩
  have HBV6 : Hid (Below w5.heap.size w5 V6) := by show Below _ _ _; rw [← hV6]; exact (Below.refl _ _).alloc (Nat.le_refl _) _
  have HS6 : Hid (V6.heap[w5.heap.size]? = some (.cells #[.slice (some ⟨ib, 0, none⟩) 1 ivc, .slice ova 1 ovc] 30)) := by show _ = _; rw [← hV6]; exact (MapKept.heap_alloc w5 _).1
  have HV6 : Hid (V6.heap[w4.heap.size + 1 + 1]? = some (.cells #[.string ⟨#[]⟩, .int .i64 2, .slice none 0 0, .slice (some ⟨w4.heap.size + 1, 0, none⟩) 1 1] 25)) := (HBV6.out.block _ (lt_heap HV5.out)).trans HV5.out
  have HBW6 : Hid (Below w.heap.size w V6) := below_step HB5.out HBV6.out
  have x0 : V6.cell? ⟨w4.heap.size + 1 + 1, 0, none⟩ = some (.string ⟨#[]⟩) := cell_heap HV6.out 0
  have x1 : V6.cell? ⟨w4.heap.size + 1 + 1, 1, none⟩ = some (.int .i64 2) := cell_heap HV6.out 1
  have x2 : V6.cell? ⟨w4.heap.size + 1 + 1, 2, none⟩ = some (.slice none 0 0) := cell_heap HV6.out 2
  have x3 : V6.cell? ⟨w4.heap.size + 1 + 1, 3, none⟩ = some (.slice (some ⟨w4.heap.size + 1, 0, none⟩) 1 1) := cell_heap HV6.out 3
  clear hri hro hsol hm1 hm2 hB5
  go_wp2_with fail
  clear hV6 x0 x1 x2 x3
  refine (inter_any f0 2 none (some ⟨w4.heap.size + 1, 0, none⟩) 0 1 V6 (HF5.out.below HBV6.out) form0 rfl (by decide) (by decide) HCL.out (tab_keep HT.out HBW6.out)).mono ?_
  rintro e w7 ⟨lv, ins2, outs2, lrows, ss, rfl, hlr, hsl, hlm, hsol, hbits, hss, hB7⟩
  obtain rfl := inter0 hsol hsl hbits hss
  have HBW7 : Hid (Below w.heap.size w w7) := HBW6.out.trans (hB7.mono HBW6.out.size)
  obtain ⟨p0, p1, rfl⟩ : ∃ p0 p1, lrows = [(p0, [1]), (p1, [0])] := by
    match lrows, hlm with
    | [(p0, l0), (p1, l1)], hlm =>
      simp only [List.map_cons, List.map_nil, show listB 2 = [1] by decide, show listB 1 = [0] by decide, List.cons.injEq, and_true] at hlm
      exact ⟨p0, p1, by rw [hlm.1, hlm.2]⟩
  obtain ⟨lva, lvc, rfl⟩ := hlr.val
  simp only [List.length_cons, List.length_nil, Nat.zero_add]
  obtain ⟨lb, rfl, _, _, _⟩ := own_some hlr.ro (by simp)
  have HLR := Lib.hid hlr
  obtain ⟨p0a, p0c, rfl⟩ : ∃ a c, p0 = .slice a 1 c := (hlr.ri _ (List.mem_cons_self ..)).val
  obtain ⟨p1a, p1c, rfl⟩ : ∃ a c, p1 = .slice a 1 c := (hlr.ri _ (List.mem_cons_of_mem _ (List.mem_singleton.2 rfl))).val
  have KEEP : Hid (∀ w', Below w7.heap.size w7 w' → Below w.heap.size w w' ∧ FnAt w' f0 none (some ⟨w4.heap.size + 1, 0, none⟩) ∧
      (w'.cell? ⟨w4.heap.size + 1 + 1, 0, none⟩ = some (.string ⟨#[]⟩) ∧ w'.cell? ⟨w4.heap.size + 1 + 1, 1, none⟩ = some (.int .i64 2) ∧ w'.cell? ⟨w4.heap.size + 1 + 1, 2, none⟩ = some (.slice none 0 0) ∧ w'.cell? ⟨w4.heap.size + 1 + 1, 3, none⟩ = some (.slice (some ⟨w4.heap.size + 1, 0, none⟩) 1 1)) ∧
      (w'.cell? ⟨w5.heap.size, 0, none⟩ = some (.slice (some ⟨ib, 0, none⟩) 1 ivc) ∧ w'.cell? ⟨w5.heap.size, 1, none⟩ = some (.slice ova 1 ovc)) ∧
      w'.cell? ⟨ib, 0, none⟩ = some (.slice iua 0 iuc) ∧ w'.cell? ⟨lb, 0, none⟩ = some (.slice p0a 1 p0c) ∧ w'.cell? ⟨lb, 1, none⟩ = some (.slice p1a 1 p1c) ∧
      IntsAt w' (.slice p0a 1 p0c) [1] ∧ IntsAt w' (.slice p1a 1 p1c) [0] ∧ IRows V.heap.size w' (.slice ova 1 ovc) [(ou, [])]) := fun w' h => by
    have h6 : Below V6.heap.size V6 w' := below_step hB7 h
    have h5 : Below w5.heap.size w5 w' := below_step HBV6.out h6
    have a1 := (h6.block _ (lt_heap HV6.out)).trans HV6.out
    have a2 := (h6.block _ (lt_heap HS6.out)).trans HS6.out
    have r1 := HRI.out.keep h5
    have r2 := HRO.out.keep h5
    have r3 := HLR.out.keep h
    exact ⟨below_step HBW7.out h, HF5.out.below h5, ⟨cell_heap a1 0, cell_heap a1 1, cell_heap a1 2, cell_heap a1 3⟩, two_cells a2, own_cell r1.ro (by rfl), own_cell r3.ro (by rfl), own_cell r3.ro (by rfl), (r3.ri _ (List.mem_cons_self ..)).at_, (r3.ri _ (List.mem_cons_of_mem _ (List.mem_singleton.2 rfl))).at_, r2⟩
  obtain ⟨k1, k2, ⟨x0, x1, x2, x3⟩, ⟨y0, y1⟩, i0, l0, l1, e0, e1, ro⟩ := KEEP.out w7 (Below.refl _ _)
  have E0 := Lib.hid e0
  clear hlr hsl hlm hsol hbits hss hB7 k1 k2 ro e0 e1

  go_wp2_with fail
  refine (intsEqual_any [1] [1] _ _ _ (E0.out.below ((Below.refl _ _).alloc (Nat.le_refl _) _)) lit_one (by decide) (by decide)).mono ?_
  rintro e w8 ⟨he, kk8, hk8⟩
  rw [show decide ([1] = ([1] : List Int)) = true from by decide] at he
  subst he
  have HB8 : Hid (Below w7.heap.size w7 w8) := by
    show Below _ _ _
    rw [hk8]
    exact below_step (Below.refl w7.heap.size w7) ((Below.refl _ _).alloc (Nat.le_refl _) _) |>.trans ⟨rfl, rfl, rfl, Nat.le_refl _, fun _ _ => rfl⟩
  clear hk8 x0 x1 x2 x3 y0 y1 i0 l0 l1
  obtain ⟨k1, k2, ⟨x0, x1, x2, x3⟩, ⟨y0, y1⟩, i0, l0, l1, e0, e1, ro⟩ := KEEP.out w8 HB8.out
  have E1 := Lib.hid e1
  clear k1 k2 ro e0 e1

  go_wp2_with fail
  refine (intsEqual_any [0] [0] _ _ _ (E1.out.below ((Below.refl _ _).alloc (Nat.le_refl _) _)) lit_one (by decide) (by decide)).mono ?_
  rintro e w9 ⟨he, kk9, hk9⟩
  rw [show decide ([0] = ([0] : List Int)) = true from by decide] at he
  subst he
  have HB9 : Hid (Below w7.heap.size w7 w9) := by
    show Below _ _ _
    rw [hk9]
    exact below_step HB8.out ((Below.refl _ _).alloc (Nat.le_refl _) _) |>.trans ⟨rfl, rfl, rfl, Nat.le_refl _, fun _ _ => rfl⟩
  clear hk9 x0 x1 x2 x3 y0 y1 i0 l0 l1
  obtain ⟨k1, k2, ⟨x0, x1, x2, x3⟩, ⟨y0, y1⟩, i0, l0, l1, e0, e1, ro⟩ := KEEP.out w9 HB9.out
  have K1 := Lib.hid k1
  have K2 := Lib.hid k2
  have RO := Lib.hid ro
  clear k1 k2 ro e0 e1
  go_wp2_with fail
  clear x0 x1 x2 x3 y0 y1 i0 l0 l1
  refine (before_any f0 2 none (some ⟨w4.heap.size + 1, 0, none⟩) 0 1 (.slice (some ⟨ib, 0, none⟩) 1 ivc) (.slice ova 1 ovc) V.heap.size 0 0 2 blk0 [(ou, [])] ou w9 K2.out form0 rfl (by decide) (by decide) HCL.out (tab_keep HT.out K1.out) ⟨_, _, _, rfl⟩ RO.out rfl rfl (by decide) (by rw [show listB 0 = [] from by decide]; rfl) (by decide)).mono ?_
  rintro e wa ⟨bv, rfl, hbv, hBa⟩
  rw [show listB (blkB blk0 2 0) = [0, 1] from by decide] at hbv
  obtain ⟨bva, bvc, rfl⟩ : ∃ a c, bv = .slice a 2 c := hbv.val
  have BV := Lib.hid hbv.at_
  have HBa : Hid (Below w7.heap.size w7 wa) := below_step HB9.out hBa
  clear hbv hBa

  go_wp2_with fail
  refine (intsEqual_any [0, 1] [0, 1] _ _ _ (BV.out.below ((Below.refl _ _).alloc (Nat.le_refl _) _)) lit_two (by decide) (by decide)).mono ?_
  rintro e wb ⟨he, kkb, hkb⟩
  rw [show decide ([0, 1] = ([0, 1] : List Int)) = true from by decide] at he
  subst he
  have HBb : Hid (Below w7.heap.size w7 wb) := by
    show Below _ _ _
    rw [hkb]
    exact below_step HBa.out ((Below.refl _ _).alloc (Nat.le_refl _) _) |>.trans ⟨rfl, rfl, rfl, Nat.le_refl _, fun _ _ => rfl⟩
  have HBF := Lib.hid (below_step HBW7.out HBb.out)
  clear hkb
  go_wp2_with fail
  go_ret
  exact ⟨rfl, HBF.out⟩
end Go.Proofs.YteknhnnlhhgppaaDoor

/-
  Small laws of layer 19: equal lists; rows of rows; a store of what is there.
-/
namespace Go.Proofs.YteknhnnlhhgppaaDoor
set_option linter.unusedVariables false
set_option linter.unusedSimpArgs false
open Go.RowKit
set_option maxRecDepth 100000
set_option maxHeartbeats 4000000

theorem intsSame_any (l : List Int) (va vb : Value) (w : World) (ha : IntsAt w va l) (hb : IntsAt w vb l) (hl : l.length ≤ 1000000) :
    Calls Tryd.prog 16 #[va, vb] w fun e w' => e = .returned (.bool true) ∧ Below w.heap.size w w' :=
  (intsEqual_any l l va vb w ha hb hl hl).mono fun e w' ⟨he, k, hk⟩ => ⟨by rw [he]; simp, by rw [hk]; exact ⟨rfl, rfl, rfl, Nat.le_refl _, fun _ _ => rfl⟩⟩
theorem below_draw1 {W w1 : World} (h : Below W.heap.size W w1) : Below W.heap.size W w1.drew := ⟨h.os, h.tape, h.output, h.size, h.block⟩
theorem setCell_self {w : World} {b o : Nat} {v : Value} (h : w.cell? ⟨b, o, none⟩ = some v) : w.setCell ⟨b, o, none⟩ v = w := by
  have e : (w.setCell ⟨b, o, none⟩ v).heap = w.heap := by
    apply Array.ext_getElem?
    intro i
    simp only [World.setCell, Array.getElem?_modify]
    by_cases hb : b = i
    · subst hb
      rw [if_pos rfl]
      unfold World.cell? at h
      cases hc : w.heap[b]? with
      | none => rfl
      | some x =>
        rw [hc] at h
        match x, h with
        | .cells c e2 fz, h =>
          simp only [Option.isSome_none, Bool.false_eq_true, if_false, Option.map_some] at h ⊢
          congr 2
          apply Array.ext_getElem?
          intro j
          rw [Array.getElem?_setIfInBounds]
          by_cases hj : o = j
          · subst hj
            have hlt : o < c.size := (Array.getElem?_eq_some_iff.1 h).1
            rw [if_pos rfl, if_pos hlt, h]
          · rw [if_neg hj]
    · rw [if_neg hb]
  have e2 : w.setCell ⟨b, o, none⟩ v = { w with heap := (w.setCell ⟨b, o, none⟩ v).heap } := rfl
  rw [e2, e]
theorem row_get {rows : List (Value × List Int)} {xs : List Nat} {j : Nat} (h : rows.map (·.2) = xs.map listB) (hj : j < xs.length) : ∃ u, rows[j]? = some (u, listB (xs.getD j 0)) := by
  have h1 : (rows.map (·.2))[j]? = some (listB (xs.getD j 0)) := by
    rw [h, List.getElem?_map, List.getElem?_eq_getElem hj, getD_at _ _ hj]
    rfl
  rw [List.getElem?_map] at h1
  obtain ⟨p, hp, hp2⟩ := Option.map_eq_some_iff.1 h1
  exact ⟨p.1, by rw [hp, ← hp2]⟩
theorem IRows.get {B : Nat} {w : World} {v u : Value} {rows : List (Value × List Int)} {l : List Int} {j : Nat} (h : IRows B w v rows) (hj : rows[j]? = some (u, l)) : IntsAt w u l :=
  (h.ri _ (List.mem_of_getElem? hj)).at_
theorem IRows.cellAt {B n c g j : Nat} {w : World} {u : Value} {rows : List (Value × List Int)} {l : List Int} (h : IRows B w (.slice (some ⟨g, 0, none⟩) n c) rows) (hj : rows[j]? = some (u, l)) : w.cell? ⟨g, j, none⟩ = some u :=
  own_cell h.ro (by rw [List.getElem?_map, hj]; rfl)
end Go.Proofs.YteknhnnlhhgppaaDoor
