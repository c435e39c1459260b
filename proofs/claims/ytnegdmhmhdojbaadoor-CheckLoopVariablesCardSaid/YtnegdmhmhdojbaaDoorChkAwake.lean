/-
  Contract: awake (package ontimelaw15): the example of the chapter holds.
-/
import Derived.Test.YtnegdmhmhdojbaaDoorChkPlains
namespace Go.Proofs.YtnegdmhmhdojbaaDoor
set_option linter.unusedVariables false
set_option linter.unusedSimpArgs false
open Go.RowKit
set_option maxRecDepth 100000
set_option maxHeartbeats 8000000

def tyA : Tree := Tree.leaf 2 0 ⟨#[121]⟩
def tnA : Tree := Tree.leaf 1 0 ⟨#[]⟩
def tsA : Tree := one1 3 ⟨#[115]⟩ tnA
def taA : Tree := two1 40 tyA tsA
def tbA : Tree := one1 47 ⟨#[]⟩ taA
def tkA : Tsk := ⟨⟨#[116]⟩, 1, [⟨#[120]⟩], [], tbA⟩
def pA : Prg := ⟨[⟨⟨#[115]⟩, 2⟩], [tkA]⟩
theorem pA_ok : prgOk pA = true := by kernel_rfl
theorem pA_faults : checkE pA = [⟨0, ⟨[0, 0], 6, ⟨#[121]⟩⟩⟩, ⟨0, ⟨[0, 1], 12, ⟨#[115]⟩⟩⟩] := by kernel_rfl
theorem pA_not : okP pA = false := by kernel_rfl
theorem two_of {α : Type} {l : List α} {β : Type} {f : α → β} {a b : β} (h : l.map f = [a, b]) : ∃ x y, l = [x, y] ∧ f x = a ∧ f y = b := by
  match l, h with
  | [x, y], h => simp at h; exact ⟨x, y, rfl, h.1, h.2⟩
theorem awake15_any (w : World) (hg : SignsIn w) : Calls Tryd.prog 12 #[] w fun e w' => e = .returned (.bool true) ∧ Below w.heap.size w w' := by
  obtain ⟨A2, h2⟩ : ∃ A2 : World, (w.alloc (.cells #[.int .u8 2, .int .i64 0, .string ⟨#[121]⟩, .slice none 0 0] 43)).alloc (.cells #[.int .u8 1, .int .i64 0, .string ⟨#[]⟩, .slice none 0 0] 43) = A2 := ⟨_, rfl⟩
  obtain ⟨A3, h3⟩ : ∃ A3 : World, A2.alloc (.cells #[.int .u8 3, .int .i64 0, .string ⟨#[115]⟩, .slice (some ⟨w.heap.size + 1, 0, none⟩) 1 1] 43) = A3 := ⟨_, rfl⟩
  obtain ⟨A4, h4⟩ : ∃ A4 : World, A3.alloc (.cells #[.string ⟨#[115]⟩, .int .i64 2] 52) = A4 := ⟨_, rfl⟩
  obtain ⟨A5, h5⟩ : ∃ A5 : World, A4.alloc (.cells #[.string ⟨#[120]⟩] 9) = A5 := ⟨_, rfl⟩
  obtain ⟨A6, h6⟩ : ∃ A6 : World, A5.alloc (.cells #[.int .u8 2, .int .i64 0, .string ⟨#[121]⟩, .slice none 0 0, .int .u8 3, .int .i64 0, .string ⟨#[115]⟩, .slice (some ⟨w.heap.size + 1, 0, none⟩) 1 1] 43) = A6 := ⟨_, rfl⟩
  obtain ⟨A7, h7⟩ : ∃ A7 : World, A6.alloc (.cells #[.int .u8 40, .int .i64 0, .string ⟨#[]⟩, .slice (some ⟨A5.heap.size, 0, none⟩) 2 2] 43) = A7 := ⟨_, rfl⟩
  have z1 : (w.alloc (.cells #[.int .u8 2, .int .i64 0, .string ⟨#[121]⟩, .slice none 0 0] 43)).heap.size = w.heap.size + 1 := by simp
  have b1 : Below w.heap.size w (w.alloc (.cells #[.int .u8 2, .int .i64 0, .string ⟨#[121]⟩, .slice none 0 0] 43)) := mem_alloc _ _
  have b2 : Below (w.alloc (.cells #[.int .u8 2, .int .i64 0, .string ⟨#[121]⟩, .slice none 0 0] 43)).heap.size (w.alloc (.cells #[.int .u8 2, .int .i64 0, .string ⟨#[121]⟩, .slice none 0 0] 43)) A2 := by rw [← h2]; exact mem_alloc _ _
  have b3 : Below A2.heap.size A2 A3 := by rw [← h3]; exact mem_alloc _ _
  have b4 : Below A3.heap.size A3 A4 := by rw [← h4]; exact mem_alloc _ _
  have b5 : Below A4.heap.size A4 A5 := by rw [← h5]; exact mem_alloc _ _
  have b6 : Below A5.heap.size A5 A6 := by rw [← h6]; exact mem_alloc _ _
  have b7 : Below A6.heap.size A6 A7 := by rw [← h7]; exact mem_alloc _ _
  have b25 : Below (w.alloc (.cells #[.int .u8 2, .int .i64 0, .string ⟨#[121]⟩, .slice none 0 0] 43)).heap.size (w.alloc (.cells #[.int .u8 2, .int .i64 0, .string ⟨#[121]⟩, .slice none 0 0] 43)) A5 := mem_then (mem_then (mem_then b2 b3) b4) b5
  have m1 : A5.heap[w.heap.size]? = some (.cells #[.int .u8 2, .int .i64 0, .string ⟨#[121]⟩, .slice none 0 0] 43) := mem_keep (mem_new _ _) b25
  have m2 : A7.heap[w.heap.size + 1]? = some (.cells #[.int .u8 1, .int .i64 0, .string ⟨#[]⟩, .slice none 0 0] 43) := mem_keep (by rw [← h2, ← z1]; exact mem_new _ _) (mem_then (mem_then (mem_then (mem_then b3 b4) b5) b6) b7)
  have m3 : A5.heap[A2.heap.size]? = some (.cells #[.int .u8 3, .int .i64 0, .string ⟨#[115]⟩, .slice (some ⟨w.heap.size + 1, 0, none⟩) 1 1] 43) := mem_keep (by rw [← h3]; exact mem_new _ _) (mem_then b4 b5)
  have m4 : A7.heap[A3.heap.size]? = some (.cells #[.string ⟨#[115]⟩, .int .i64 2] 52) := mem_keep (by rw [← h4]; exact mem_new _ _) (mem_then (mem_then b5 b6) b7)
  have m5 : A7.heap[A4.heap.size]? = some (.cells #[.string ⟨#[120]⟩] 9) := mem_keep (by rw [← h5]; exact mem_new _ _) (mem_then b6 b7)
  have m6 : A7.heap[A5.heap.size]? = some (.cells #[.int .u8 2, .int .i64 0, .string ⟨#[121]⟩, .slice none 0 0, .int .u8 3, .int .i64 0, .string ⟨#[115]⟩, .slice (some ⟨w.heap.size + 1, 0, none⟩) 1 1] 43) := mem_keep (by rw [← h6]; exact mem_new _ _) b7
  have m7 : A7.heap[A6.heap.size]? = some (.cells #[.int .u8 40, .int .i64 0, .string ⟨#[]⟩, .slice (some ⟨A5.heap.size, 0, none⟩) 2 2] 43) := by rw [← h7]; exact mem_new _ _
  have rN : Rep A7 tnA none := leaf_rep (by omega) (by omega) (by decide)
  have rY : Rep A7 tyA none := leaf_rep (by omega) (by omega) (by decide)
  have rS : Rep A7 tsA (some ⟨w.heap.size + 1, 0, none⟩) := one1_rep (k := 3) (x := tnA) m2 (by omega) (by decide) rN
  have rA : Rep A7 taA (some ⟨A5.heap.size, 0, none⟩) := two1_rep (k := 40) (t0 := tyA) (t1 := tsA) m6 (by omega) rY rS
  have HRB : Hid (Rep A7 tbA (some ⟨A6.heap.size, 0, none⟩)) := one1_rep (k := 47) (x := taA) m7 (by omega) (by decide) rA
  have HM4 := Lib.hid m4
  have HM5 := Lib.hid m5
  have HB7 : Hid (Below w.heap.size w A7) := mem_then b1 (mem_then b25 (mem_then b6 b7))
  have HG7 := Lib.hid (hg.below HB7.out)
  have c0 := mem_cell m1 0
  have c1 := mem_cell m1 1
  have c2 := mem_cell m1 2
  have c3 := mem_cell m1 3
  have e0 := mem_cell m3 0
  have e1 := mem_cell m3 1
  have e2 := mem_cell m3 2
  have e3 := mem_cell m3 3
  simp only [List.getElem?_toArray, List.getElem?_cons_zero, List.getElem?_cons_succ] at c0 c1 c2 c3 e0 e1 e2 e3
  clear z1 b1 b2 b3 b4 b5 b6 b7 b25 m1 m2 m3 m4 m5 m6 m7 rN rY rS rA hg
  go_enter Tryd.func12, Tryd.ntmps12
  go_wp2_with fail
  clear h2 h3 h4 h5 h6 h7 c0 c1 c2 c3 e0 e1 e2 e3
  refine (block_any A7 (some ⟨A6.heap.size, 0, none⟩) 1 1).mono ?_
  rintro e w1 ⟨rfl, hB1⟩
  have HB1 := Lib.hid hB1
  obtain ⟨C1, g1⟩ : ∃ C1 : World, w1.alloc (.cells #[.string ⟨#[116]⟩, .int .i64 1, .slice (some ⟨A4.heap.size, 0, none⟩) 1 1, .slice none 0 0, .int .u8 47, .int .i64 0, .string ⟨#[]⟩, .slice (some ⟨A6.heap.size, 0, none⟩) 1 1] 45) = C1 := ⟨_, rfl⟩
  obtain ⟨C2, g2⟩ : ∃ C2 : World, C1.alloc (.cells #[.slice (some ⟨A3.heap.size, 0, none⟩) 1 1, .slice (some ⟨w1.heap.size, 0, none⟩) 1 1] 25) = C2 := ⟨_, rfl⟩
  have d1 : Below w1.heap.size w1 C1 := by rw [← g1]; exact mem_alloc _ _
  have d2 : Below C1.heap.size C1 C2 := by rw [← g2]; exact mem_alloc _ _
  have HB72 : Hid (Below A7.heap.size A7 C2) := mem_then (mem_then hB1 d1) d2
  have n1 : C2.heap[w1.heap.size]? = some (.cells #[.string ⟨#[116]⟩, .int .i64 1, .slice (some ⟨A4.heap.size, 0, none⟩) 1 1, .slice none 0 0, .int .u8 47, .int .i64 0, .string ⟨#[]⟩, .slice (some ⟨A6.heap.size, 0, none⟩) 1 1] 45) := mem_keep (by rw [← g1]; exact mem_new _ _) d2
  have n2 : C2.heap[C1.heap.size]? = some (.cells #[.slice (some ⟨A3.heap.size, 0, none⟩) 1 1, .slice (some ⟨w1.heap.size, 0, none⟩) 1 1] 25) := by rw [← g2]; exact mem_new _ _
  have k4 := mem_keep HM4.out HB72.out
  have k5 := mem_keep HM5.out HB72.out
  have HP : Hid (PrgAt C2 pA (some ⟨A3.heap.size, 0, none⟩) (some ⟨w1.heap.size, 0, none⟩)) := by
    refine ⟨⟨by decide, fun i hi => ?_⟩, ⟨by decide, fun i hi => ?_⟩⟩
    · obtain rfl : i = 0 := by have : i < 1 := hi; omega
      exact ⟨_, 0, rfl, mem_cell k4 0, mem_cell k4 1, by decide, show isI64 2 from ⟨by decide, by decide⟩⟩
    · obtain rfl : i = 0 := by have : i < 1 := hi; omega
      refine ⟨w1.heap.size, 0, ⟨some ⟨A4.heap.size, 0, none⟩, 1, none, 0, some ⟨A6.heap.size, 0, none⟩, 1⟩, rfl, fun o ho => ?_, ⟨by decide, show isI64 1 from ⟨by decide, by decide⟩, ⟨by decide, fun i hi => ?_⟩, ⟨by decide, fun i hi => ?_⟩, HRB.out.below HB72.out⟩⟩
      · rw [mem_cell n1, Nat.zero_mul, Nat.zero_add]
        rfl
      · obtain rfl : i = 0 := by have : i < 1 := hi; omega
        exact ⟨_, 0, rfl, mem_cell k5 0, by decide⟩
      · exact absurd hi (Nat.not_lt_zero _)
  have HBC : Hid (Below w.heap.size w C2) := HB7.out.trans (HB72.out.mono HB7.out.size)
  have HG2 := Lib.hid (HG7.out.below HB72.out)
  have HN2 := Lib.hid n2
  have y0 := mem_cell n2 0
  have y1 := mem_cell n2 1
  simp only [List.getElem?_toArray, List.getElem?_cons_zero, List.getElem?_cons_succ] at y0 y1
  clear d1 d2 n1 n2 k4 k5 hB1 HB1 HM4 HM5 HRB HB7 HB72 HG7
  go_wp2_with fail
  clear g1 g2 y0 y1
  refine (check_any pA C2 _ _ 1 1 HP.out HG2.out).mono ?_
  rintro e w2 ⟨v, L, rfl, hL, hF, _, hB2⟩
  obtain ⟨va, vc, rfl⟩ := own_val hL.ro
  rw [pA_faults] at hF
  obtain ⟨f, g, rfl, e1, e2⟩ := two_of hF
  obtain ⟨ft, ⟨fp, fe, fn⟩, fv⟩ := f
  obtain ⟨gt, ⟨gp, ge, gn⟩, gv⟩ := g
  simp only [TFlt.mk.injEq, Flt.mk.injEq] at e1 e2
  obtain ⟨rfl, rfl, rfl, rfl⟩ := e1
  obtain ⟨rfl, rfl, rfl, rfl⟩ := e2
  obtain ⟨gb, rfl, _, _⟩ := own_at hL.ro (by simp)
  have p1 := hL.ri _ (List.mem_cons_self ..)
  have p2 := hL.ri _ (List.mem_cons_of_mem _ (List.mem_cons_self ..))
  obtain ⟨pa, pc, rfl⟩ : ∃ pa pc, fv = .slice pa 2 pc := own_val p1
  obtain ⟨qa, qc, rfl⟩ : ∃ qa qc, gv = .slice qa 2 qc := own_val p2
  have HL := Lib.hid hL
  have HP1 : Hid (IRow w2 pa [0, 0]) := PathV.row (p := [0, 0]) p1
  have HP2 : Hid (IRow w2 qa [0, 1]) := PathV.row (p := [0, 1]) p2
  have HBW2 : Hid (Below w.heap.size w w2) := HBC.out.trans (hB2.mono HBC.out.size)
  have HPW := Lib.hid (HP.out.below hB2)
  have HGW := Lib.hid (HG2.out.below hB2)
  have HN3 := Lib.hid (mem_keep HN2.out hB2)
  obtain ⟨D, hD⟩ : ∃ D : World, w2.alloc (.cells #[.int .i64 0, .int .i64 0] 3) = D := ⟨_, rfl⟩
  have hBD : Below w2.heap.size w2 D := by rw [← hD]; exact mem_alloc _ _
  have r2 : w2.cell? ⟨gb, 2, none⟩ = some (.int .i64 6) := hL.cell rfl
  have r1 : w2.cell? ⟨gb, 1, none⟩ = some (.slice pa 2 pc) := hL.cell rfl
  clear p1 p2 hL hF hB2 HP HG2 HN2 HBC
  go_wp2_with fail
  clear r1 r2
  have HBD := Lib.hid hBD
  refine (ieq_any [0, 0] [0, 0] D pa (some ⟨w2.heap.size, 0, none⟩) pc 2 (HP1.out.below hBD) (irow_new (p := [0, 0]) (by rw [← hD]; exact mem_new _ _) (by decide))).mono ?_
  rintro e w3 ⟨he, hB3⟩
  obtain rfl : e = .returned (.bool true) := he
  have HB23 : Hid (Below w2.heap.size w2 w3) := mem_then HBD.out hB3
  have HL3 := Lib.hid (HL.out.keep HB23.out)
  have r6 : w3.cell? ⟨gb, 6, none⟩ = some (.int .i64 12) := HL3.out.cell rfl
  have r5 : w3.cell? ⟨gb, 5, none⟩ = some (.slice qa 2 qc) := HL3.out.cell rfl
  obtain ⟨D3, hD3⟩ : ∃ D3 : World, w3.alloc (.cells #[.int .i64 0, .int .i64 1] 3) = D3 := ⟨_, rfl⟩
  have hBD3 : Below w3.heap.size w3 D3 := by rw [← hD3]; exact mem_alloc _ _
  clear hD hBD hB3 HL
  go_wp2_with fail
  clear r5 r6
  have HBD3 := Lib.hid hBD3
  refine (ieq_any [0, 1] [0, 1] D3 qa (some ⟨w3.heap.size, 0, none⟩) qc 2 ((HP2.out.below HB23.out).below hBD3) (irow_new (p := [0, 1]) (by rw [← hD3]; exact mem_new _ _) (by decide))).mono ?_
  rintro e w4 ⟨he, hB4⟩
  obtain rfl : e = .returned (.bool true) := he
  have HB24 : Hid (Below w2.heap.size w2 w4) := mem_then HB23.out (mem_then HBD3.out hB4)
  have r7 : w4.cell? ⟨gb, 7, none⟩ = some (.string ⟨#[115]⟩) := (HL3.out.keep (mem_then HBD3.out hB4)).cell rfl
  have HN4 := mem_keep HN3.out HB24.out
  have y0 := mem_cell HN4 0
  have y1 := mem_cell HN4 1
  simp only [List.getElem?_toArray, List.getElem?_cons_zero, List.getElem?_cons_succ] at y0 y1
  clear hD3 hBD3 hB4 HN4
  go_wp2_with fail
  clear r7 y0 y1
  refine (ok15_any pA w4 _ _ 1 1 (HPW.out.below HB24.out) (HGW.out.below HB24.out)).mono ?_
  rintro e w5 ⟨he, hB5⟩
  rw [pA_not] at he
  subst he
  have HB5 : Hid (Below w.heap.size w w5) := (HBW2.out.trans (HB24.out.mono HBW2.out.size)).trans (hB5.mono (HBW2.out.trans (HB24.out.mono HBW2.out.size)).size)
  clear hB5
  go_wp2_with fail
  go_ret
  exact ⟨rfl, HB5.out⟩
end Go.Proofs.YtnegdmhmhdojbaaDoor
