/-
  Contract: Objects (package check).
-/
import Derived.Test.YtnegdmhmhdojbaaDoorChkObj
import Derived.Test.YtnegdmhmhdojbaaDoorChkFaults
namespace Go.Proofs.YtnegdmhmhdojbaaDoor
set_option linter.unusedVariables false
set_option linter.unusedSimpArgs false
open Go.RowKit
set_option maxRecDepth 100000
set_option maxHeartbeats 16000000

/-- a row of names that a call built -/
structure NRow (B : Nat) (w : World) (v : Value) (l : List ByteArray) : Prop where
  row : w.ownsRow B 9 1 v l.length (l.map Value.string)
  sizes : ∀ s ∈ l, s.size ≤ 9223372036854775807
theorem NRow.keep {B : Nat} {w w' : World} {v : Value} {l : List ByteArray} (h : NRow B w v l) (hB : Below w.heap.size w w') : NRow B w' v l := ⟨own_below h.row hB, h.sizes⟩
theorem NRow.base {B B' : Nat} {w : World} {v : Value} {l : List ByteArray} (h : NRow B w v l) (hb : B' ≤ B) : NRow B' w v l := ⟨ownsRow_base h.row hb, h.sizes⟩
theorem objs_any (t : Tree) (w : World) (a : Option Addr) (c : Nat) (hr : Rep w t a) (hs : t.size ≤ 1000000) :
    Calls Tryd.prog 24 #[t.val a c] w fun e w' => ∃ v, e = .returned v ∧ NRow w.heap.size w' v (objT [] t) ∧ Below w.heap.size w w' := by
  obtain ⟨A1, h1⟩ : ∃ A1 : World, w.alloc (boxObj t a c) = A1 := ⟨_, rfl⟩
  obtain ⟨A2, h2⟩ : ∃ A2 : World, A1.alloc (.cells #[.slice none 0 0] 40) = A2 := ⟨_, rfl⟩
  obtain ⟨A3, h3⟩ : ∃ A3 : World, A2.alloc (.map #[] 0) = A3 := ⟨_, rfl⟩
  obtain ⟨A4, h4⟩ : ∃ A4 : World, A3.alloc (.cells #[.map (some A2.heap.size)] 72) = A4 := ⟨_, rfl⟩
  obtain ⟨V0, hV0⟩ : ∃ V0 : World, A4.alloc (.cells #[.nilFunc] 78) = V0 := ⟨_, rfl⟩
  obtain ⟨V, hVV⟩ : ∃ V : World, V0.setCell ⟨A4.heap.size, 0, none⟩ (.func (.func 53) #[] #[.pointer (some ⟨A3.heap.size, 0, none⟩), .pointer (some ⟨A1.heap.size, 0, none⟩), .pointer (some ⟨A4.heap.size, 0, none⟩)]) = V := ⟨_, rfl⟩
  have b1 : Below w.heap.size w A1 := by rw [← h1]; exact mem_alloc _ _
  have b2 : Below A1.heap.size A1 A2 := by rw [← h2]; exact mem_alloc _ _
  have b3 : Below A2.heap.size A2 A3 := by rw [← h3]; exact mem_alloc _ _
  have b4 : Below A3.heap.size A3 A4 := by rw [← h4]; exact mem_alloc _ _
  have hv0 : V0.heap[A4.heap.size]? = some (.cells #[.nilFunc] 78) := by rw [← hV0]; exact mem_new _ _
  have c0 : V0.cell? ⟨A4.heap.size, 0, none⟩ = some .nilFunc := mem_cell hv0 0
  have z0 : V0.frozen? ⟨A4.heap.size, 0, none⟩ = false := mem_free hv0 0
  have b5 : Below A4.heap.size A4 V := by rw [← hVV, ← hV0]; exact (mem_alloc _ _).setCell (Nat.le_refl _) _
  have b45 : Below A3.heap.size A3 V := mem_then b4 b5
  have b35 : Below A2.heap.size A2 V := mem_then b3 b45
  have b25 : Below A1.heap.size A1 V := mem_then b2 b35
  have HBV : Hid (Below w.heap.size w V) := mem_then b1 b25
  have HXB : Hid (V.heap[w.heap.size]? = some (boxObj t a c)) := mem_keep (by rw [← h1]; exact mem_new _ _) b25
  have HLB : Hid (V.heap[A1.heap.size]? = some (.cells #[.slice none 0 0] 40)) := mem_keep (by rw [← h2]; exact mem_new _ _) b35
  have HSB : Hid (SetS V A2.heap.size 0 []) := by show StrSet _ _ _ _ _ _ _; exact StrSet.below (by rw [← h3]; exact StrSet.made _ _ _ _) b45
  have HMB : Hid (V.heap[A3.heap.size]? = some (.cells #[.map (some A2.heap.size)] 72)) := mem_keep (by rw [← h4]; exact mem_new _ _) b5
  have hvb : V.heap[A4.heap.size]? = some (.cells #[.func (.func 53) #[] #[.pointer (some ⟨A3.heap.size, 0, none⟩), .pointer (some ⟨A1.heap.size, 0, none⟩), .pointer (some ⟨A4.heap.size, 0, none⟩)]] 78) := by rw [← hVV]; exact mem_set hv0
  have g0 := mem_cell hvb 0
  obtain ⟨⟨n0, n1, n2, n3⟩, _⟩ := blk4 HXB.out
  simp only [List.getElem?_toArray, List.getElem?_cons_zero, List.getElem?_cons_succ] at g0
  have QV := ovisit_any w.heap.size A2.heap.size A3.heap.size A1.heap.size A4.heap.size t V a c (.slice none 0 0) [] HBV.out.size ⟨HMB.out, hvb⟩ ⟨HSB.out, HLB.out, World.ownsRow_nil _ _ _ _, b1.size, Nat.le_trans b1.size b2.size, by simp⟩ (hr.toIn.move (fun k hk _ => HBV.out.block k hk) (fun _ hk _ => hk)) (by simpa using hs)
  obtain ⟨l, hl⟩ : ∃ l, objT [] t = l := ⟨_, rfl⟩
  rw [hl] at QV ⊢
  have HQV := Lib.hid QV
  have hmm := @run_makeMap Tryd.prog
  clear hr hs QV hl hvb hv0 b1 b2 b3 b4 b5 b45 b35 b25 HSB HMB HXB HLB
  go_enter Tryd.func24, Tryd.ntmps24
  go_wp2_with fail
  clear g0 z0 c0 hmm hVV hV0 h1 h2 h3 h4 n0 n1 n2 n3
  refine HQV.out.mono ?_
  rintro e w2 ⟨rfl, hF2, v2, hob⟩
  have HB2 : Hid (Below w.heap.size w w2) := HBV.out.trans hF2.low
  have HRW : Hid (NRow w.heap.size w2 v2 l) := ⟨hob.row, hob.sizes⟩
  obtain ⟨va, vc, rfl⟩ := own_val hob.row
  have f0 := mem_cell hob.box 0
  simp only [List.getElem?_toArray, List.getElem?_cons_zero, List.getElem?_cons_succ] at f0
  clear hF2 hob HQV
  go_wp2_with fail
  go_ret
  exact ⟨_, rfl, HRW.out, HB2.out⟩
end Go.Proofs.YtnegdmhmhdojbaaDoor
