/-
  Plain: the registers that are live at the end of a block, gathered from its successors; what the map of LivenessEquations keeps.
-/
import Derived.Test.YteknhnnlhhgppaaDoorSetMap
import Derived.Test.YteknhnnlhhgppaaDoorLiveWork
import Derived.Test.YteknhnnlhhgppaaDoorLiveSet
namespace Go.Proofs.YteknhnnlhhgppaaDoor
set_option linter.unusedVariables false
set_option linter.unusedSimpArgs false
open Go.RowKit
set_option maxRecDepth 100000

/-- what is live at the start of some block of a list -/
def gatherB (ins : List Nat) (l : List Int) (s : Nat) : Nat := l.foldl (fun s t => useB (listB (ins.getD t.toNat 0)) s) s
theorem gatherB_snoc (ins : List Nat) (l : List Int) (t : Int) (s : Nat) : gatherB ins (l ++ [t]) s = useB (listB (ins.getD t.toNat 0)) (gatherB ins l s) := by
  unfold gatherB; rw [List.foldl_append]; rfl
theorem useB_snoc (l : List Int) (r : Int) (s : Nat) : useB (l ++ [r]) s = addB (useB l s) r.toNat := by
  unfold useB; rw [List.foldl_append]; rfl
theorem gatherB_bit {ins : List Nat} {R : Nat} (hb : ∀ k, ins.getD k 0 < 2 ^ R) (hR : R ≤ 12) (r : Nat) : ∀ (l : List Int) (s : Nat), (gatherB ins l s).testBit r = true ↔ s.testBit r = true ∨ ∃ t ∈ l, (ins.getD t.toNat 0).testBit r = true
  | [], s => by simp [gatherB]
  | t :: l, s => by
    have ih := gatherB_bit hb hR r l (useB (listB (ins.getD t.toNat 0)) s)
    show (gatherB ins l (useB (listB (ins.getD t.toNat 0)) s)).testBit r = true ↔ _
    have h12 : ins.getD t.toNat 0 < 4096 := Nat.lt_of_lt_of_le (hb _) (Nat.pow_le_pow_right (n := 2) (by omega) hR)
    rw [ih, useB_bit _ _ _ (fun q hq => (list_in (hb t.toNat) hq).1), Bool.or_eq_true, decide_eq_true_iff, mem_list h12]
    constructor
    · rintro ((h | h) | ⟨u, hu, h⟩)
      · exact .inl h
      · exact .inr ⟨t, List.mem_cons_self .., h⟩
      · exact .inr ⟨u, List.mem_cons_of_mem _ hu, h⟩
    · rintro (h | ⟨u, hu, h⟩)
      · exact .inl (.inl h)
      · rcases List.mem_cons.1 hu with rfl | hu
        · exact .inl (.inr h)
        · exact .inr ⟨u, hu, h⟩
theorem Sol.joined {f : Fn} {R : Nat} {ins outs : List Nat} (h : Sol f R ins outs) (hR : R ≤ 12) {k : Nat} {b : Blk} (hb : f.blocks[k]? = some b) : gatherB ins b.succ 0 = outs.getD k 0 :=
  Nat.eq_of_testBit_eq fun r => by
    rw [Bool.eq_iff_iff, gatherB_bit h.bi hR, h.eqo k b hb]
    simp
theorem gatherB_lt {ins : List Nat} {R : Nat} (hb : ∀ k, ins.getD k 0 < 2 ^ R) (hR : R ≤ 12) (l : List Int) : gatherB ins l 0 < 2 ^ R := by
  apply lt_bits
  intro j hj
  rcases (gatherB_bit hb hR j l 0).1 hj with h | ⟨t, _, h⟩
  · simp at h
  · exact bit_lt (hb _) h
theorem succ_len (b : Blk) : b.succ.length ≤ 2 := by
  unfold Blk.succ
  split
  · simp
  · split <;> simp
theorem uses_len (i : Ins) : i.uses.length ≤ 2 := by
  unfold Ins.uses
  split
  · simp
  · split <;> simp
/-- ints in new memory, by their cells -/
theorem IntsIn.far {S : Nat → Prop} {w : World} {v : Value} {l : List Int} (h : IntsIn S w v l) : ∃ a c, v = .slice a l.length c ∧ (l.length = 0 ∨ ∃ b off, a = some ⟨b, off, none⟩ ∧ S b ∧ b < w.heap.size ∧ ∀ (i : Nat) (x : Int), l[i]? = some x → w.cell? ⟨b, off + i, none⟩ = some (.int .i64 x)) := by
  rcases h with ⟨rfl, rfl⟩ | ⟨b, off, cap, rfl, hS, _, hb, hk⟩
  · exact ⟨none, 0, rfl, .inl rfl⟩
  · refine ⟨_, cap, rfl, .inr ⟨b, off, rfl, hS, hb, fun i x hx => ?_⟩⟩
    obtain ⟨hi, rfl⟩ := List.getElem?_eq_some_iff.1 hx
    rw [hk i hi]
    simp [hi]
theorem grown_cell {w w' : World} {m b o : Nat} {v : Value} (h : w.grownBy w' (some m)) (hne : b ≠ m) (hc : w.cell? ⟨b, o, none⟩ = some v) : w'.cell? ⟨b, o, none⟩ = some v :=
  (World.cell?_of_block (a := ⟨b, o, none⟩) (h.block b (World.block_lt_of_cell? w _ hc) (fun e => hne (Option.some.inj e)))).trans hc
theorem grown_step {w w1 w2 : World} {m : Nat} (h : w.grownBy w1 (some m)) (k : w1.grownBy w2 (some m)) : w.grownBy w2 (some m) := h.andThen k (fun _ e => .inr e)
theorem grown_below {w w1 w2 : World} {m : Nat} (h : w.grownBy w1 (some m)) (k : Below w1.heap.size w1 w2) : w.grownBy w2 (some m) :=
  grown_step h ⟨k.os, k.tape, k.output, k.size, fun i hi _ => k.block i hi⟩
theorem grown_refl (w : World) (m : Nat) : w.grownBy w (some m) := ⟨rfl, rfl, rfl, Nat.le_refl _, fun _ _ _ => rfl⟩
/-- the map of live registers on its way: it lies in block V.heap.size, its box behind it -/
structure EqSt (P : Program) (ki be mt : TypeId) (V : World) (n s : Nat) (w : World) : Prop where
  sm : SetMap P ki be w V.heap.size n s
  box : w.heap[V.heap.size + 1]? = some (.cells #[.map (some V.heap.size)] mt)
  low : Below V.heap.size V w
section
variable {P : Program} {ki be mt : TypeId} {V w w' : World} {n s : Nat}
theorem EqSt.keep (h : EqSt P ki be mt V n s w) (hB : Below w.heap.size w w') : EqSt P ki be mt V n s w' :=
  ⟨h.sm.below hB, (hB.block _ (Array.getElem?_eq_some_iff.1 h.box).1).trans h.box, h.low.trans (hB.mono h.low.size)⟩
theorem EqSt.turn {n' s' : Nat} (h : EqSt P ki be mt V n s w) (hg : w.grownBy w' (some V.heap.size)) (hm : SetMap P ki be w' V.heap.size n' s') : EqSt P ki be mt V n' s' w' :=
  ⟨hm, (hg.block _ (Array.getElem?_eq_some_iff.1 h.box).1 (by intro e; have := Option.some.inj e; omega)).trans h.box, h.low.grown hg h.low.size (fun k hk => by cases hk; exact Nat.le_refl _)⟩
theorem EqSt.bump {n' : Nat} (h : EqSt P ki be mt V n s w) (hn : n ≤ n') : EqSt P ki be mt V n' s w := ⟨h.sm.mono hn, h.box, h.low⟩
theorem EqSt.made (V : World) (P : Program) (ki be mt : TypeId) : EqSt P ki be mt V 0 0 ((V.alloc (.map #[] 0)).alloc (.cells #[.map (some V.heap.size)] mt)) := by
  have hz : (V.alloc (.map #[] 0)).heap.size = V.heap.size + 1 := by simp
  refine ⟨(SetMap.made P ki be V).below ((Below.refl _ _).alloc (Nat.le_refl _) _), ?_, ((Below.refl _ _).alloc (Nat.le_refl _) _).alloc (by simp) _⟩
  have := (MapKept.heap_alloc (V.alloc (.map #[] 0)) (.cells #[.map (some V.heap.size)] mt)).1
  rwa [hz] at this
end
end Go.Proofs.YteknhnnlhhgppaaDoor
