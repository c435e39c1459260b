/-
  The statement AstParts, walked (package ontimelaw12), over the contract of awake.
-/
import Derived.Test.YtfkegjdgbnkicaaDoorAstWalk
import Derived.Test.YtfkegjdgbnkicaaDoorRangeWp
import Derived.Test.YtfkegjdgbnkicaaDoorLawKinds
import Derived.Test.YtfkegjdgbnkicaaDoorParts
import Derived.Test.YtfkegjdgbnkicaaDoorAstEqual
import Derived.Test.YtfkegjdgbnkicaaDoorAstAt
import Derived.Test.YtfkegjdgbnkicaaDoorIsTask
import Derived.Test.YtfkegjdgbnkicaaDoorRoundBox
import Derived.Test.YtfkegjdgbnkicaaDoorPartRows
import Derived.Test.YtfkegjdgbnkicaaDoorStepAppend
import Derived.Laws.EntriesVeiled
import Derived.WalkLawsBesides
import Derived.BigGuardIn
import Derived.BigRegionIn
namespace Go.Proofs.YtfkegjdgbnkicaaDoor
open Go.RowKit
set_option maxRecDepth 100000
attribute [local go_sem] Oper.semAt_some undef

theorem SignsIn.lt {w : World} (h : SignsIn w) : 0 < w.heap.size := by
  obtain ⟨t, fr, h⟩ := h; exact (Array.getElem?_eq_some_iff.1 h).1
theorem SignsIn.keep {L : Nat} {A B : World} (h : SignsIn A) (hL : 0 < L) (hk : Keep (fun k => L ≤ k ∧ k ≤ L + 1) A B) : SignsIn B := by
  have hlt := h.lt
  obtain ⟨t, fr, h⟩ := h
  exact ⟨t, fr, (hk.block _ (fun q => by have := q.1; omega) hlt).trans h⟩
/-- the frame of a round -/
def PrtM (L : Nat) (T : Array Value) (x : List Int × Tree) (a' : Act) (W : World) : Prop :=
  ∃ v a c bx, a' = { tmps := ((T.setIfInBounds 26 v).setIfInBounds 27 (x.2.val a c)).setIfInBounds 6 (.pointer (some ⟨bx, 0, none⟩)), defers := [] } ∧
    RepIn (fun k => ¬ (False ∨ (L ≤ k ∧ k ≤ L + 1))) W x.2 a ∧ W.heap[bx]? = some (boxObj x.2 a c) ∧ L + 2 ≤ bx
theorem PrtM.keep {L : Nat} {T : Array Value} {x : List Int × Tree} {a' : Act} {A B : World} (h : PrtM L T x a' A) (hk : Keep (fun k => L ≤ k ∧ k ≤ L + 1) A B) : PrtM L T x a' B := by
  obtain ⟨v, a, c, bx, h1, h3, h4, h5⟩ := h
  exact ⟨v, a, c, bx, h1, h3.move (fun k hS hl => hk.block k (fun h => hS (.inr h)) hl) (fun _ h _ => h),
    (hk.block bx (fun h => by have := h.2; omega) (Array.getElem?_eq_some_iff.1 h4).1).trans h4, h5⟩
/-- what a round's first region keeps -/
structure BoxS (x : Tree) (a5 : Option Addr) (c5 bx : Nat) (W w' : World) : Prop where
  box : w'.heap[bx]? = some (boxObj x a5 c5)
  bel : Below W.heap.size W w'
theorem BoxS.next {x : Tree} {a5 : Option Addr} {c5 bx : Nat} {W w1 w2 : World} (h : BoxS x a5 c5 bx W w1) (hB : Below w1.heap.size w1 w2) : BoxS x a5 c5 bx W w2 :=
  ⟨(hB.block _ (Array.getElem?_eq_some_iff.1 h.box).1).trans h.box, h.bel.trans (hB.mono h.bel.size)⟩
/-- what a round's first region leaves -/
def PrtR (T : Array Value) (x : Tree) (a5 : Option Addr) (c5 bx : Nat) (b0 b1 b2 : Bool) (W : World) (a' : Act) (w' : World) : Prop :=
  ∃ g, a' = { tmps := ((((((((T.setIfInBounds 28 (x.val a5 c5)).setIfInBounds 29 (.bool b0)).setIfInBounds 30 (x.val a5 c5)).setIfInBounds 31 (.bool b1)).setIfInBounds 32 (x.val a5 c5)).setIfInBounds 33 (.bool b2)).setIfInBounds 34 (.slice (some ⟨g, 0, none⟩) 3 3)).setIfInBounds 35 (.int .i64 3)).setIfInBounds 36 (.int .i64 0), defers := [] } ∧
      BoxS x a5 c5 bx W w' ∧ w'.heap[g]? = some (.cells #[.bool b0, .bool b1, .bool b2] 4)
/-- how many of the first few are true -/
def cntB (b0 b1 b2 : Bool) (k : Int) : Int := (if b0 = true ∧ 0 < k then 1 else 0) + (if b1 = true ∧ 1 < k then 1 else 0) + (if b2 = true ∧ 2 < k then 1 else 0)
theorem cntB_zero (b0 b1 b2 : Bool) : cntB b0 b1 b2 0 = 0 := by simp [cntB]
theorem prt_rel {b0 b1 b2 : Bool} {i v : Int} {m : Nat} (h1 : i = 0 ∨ i = 1 ∨ i = 2 ∨ i = 3) (h2 : v = cntB b0 b1 b2 i) (h3 : 3 - i.toNat < m) :
    (∃ k : Int, (k = 0 ∨ k = 1 ∨ k = 2 ∨ k = 3) ∧ Value.int IntKind.i64 i = Value.int IntKind.i64 k ∧ Value.int IntKind.i64 v = Value.int IntKind.i64 (cntB b0 b1 b2 k) ∧ True) ∧ 3 - (intOf (Value.int IntKind.i64 i)).toNat < m :=
  ⟨⟨i, h1, rfl, by rw [h2], trivial⟩, h3⟩
theorem mem_of_pre {α : Type} {pre l : List α} {x : α} (h : pre ++ [x] <+: l) : x ∈ l := by
  obtain ⟨r, rfl⟩ := h; simp
theorem two_heap {w : World} {o o' : Obj} : ((w.alloc o).alloc o').heap[w.heap.size]? = some o := by
  rw [Below.heap_alloc _ _ _ (by simp)]; exact World.alloc_heap_new w _

theorem tree_len_le (t : Tree) : t.len < t.size := by
  have h1 : ∀ n, n ≤ Tree.sumTo (fun i => (t.kid i).size) n := by
    intro n
    induction n with
    | zero => exact Nat.zero_le _
    | succ n ih => rw [Tree.sumTo_succ]; have := Tree.size_pos (t.kid n); omega
  have := h1 t.len
  rw [Tree.size_eq t]; omega
/-- the children of the three blocks -/
def lessF (t : Tree) (k i : Nat) : Tree := if i < k then t.kid i else t.kid (i + 1)
def moreF (t u : Tree) (i : Nat) : Tree := if i < t.len then t.kid i else u
theorem moreF_last (t u : Tree) : moreF t u t.len = u := by simp [moreF]
theorem lessF_vld {t : Tree} {k m i : Nat} (h : ∀ i, i < t.len → (t.kid i).vld 115 = true) (hm : m + (k + 1) = t.len) (hi : i < k + m) : (lessF t k i).vld 115 = true := by
  unfold lessF
  by_cases h1 : i < k
  · rw [if_pos h1]; exact h i (by omega)
  · rw [if_neg h1]; exact h (i + 1) (by omega)
theorem moreF_vld {t u : Tree} {i : Nat} (h : ∀ i, i < t.len → (t.kid i).vld 115 = true) (hu : u.vld 115 = true) (_ : i < t.len + 1) : (moreF t u i).vld 115 = true := by
  unfold moreF
  by_cases h1 : i < t.len
  · rw [if_pos h1]; exact h i h1
  · rw [if_neg h1]; exact hu
theorem less_rep {t : Tree} {w : World} {base k m : Nat} {x : Nat → Option Addr × Nat} {v : Value} (h : w.ownsRow base 24 4 v (k + m) (rowsTo t.kid x k ++ rowsTo (fun i => t.kid (k + 1 + i)) (fun i => x (k + 1 + i)) m))
    (hr : ∀ i, i < t.len → Rep w (t.kid i) (x i).1) (hm : m + (k + 1) = t.len) (hn : k + m ≤ 1000000) : ∃ a c, v = .slice a (k + m) c ∧ Rep w (Tree.make 47 0 ⟨#[]⟩ (k + m) (lessF t k)) a := by
  have h1 : rowsTo t.kid x k ++ rowsTo (fun i => t.kid (k + 1 + i)) (fun i => x (k + 1 + i)) m = rowsTo (lessF t k) (fun i => if i < k then x i else x (i + 1)) (k + m) := by
    rw [← rowsTo_app]
    congr 1
    · exact rowsTo_same fun i hi => by simp [lessF, hi]
    · exact rowsTo_same fun i hi => by
        have h2 : ¬ k + i < k := by omega
        have h3 : k + 1 + i = k + i + 1 := by omega
        simp only [lessF, if_neg h2, h3, and_self]
  rw [h1] at h
  refine rep_of_row h (fun i hi => ?_) hn
  unfold lessF
  by_cases h2 : i < k
  · simp only [if_pos h2]; exact hr i (by omega)
  · simp only [if_neg h2]; exact hr (i + 1) (by omega)
theorem more_rep {t u : Tree} {w : World} {base : Nat} {x : Nat → Option Addr × Nat} {y : Option Addr × Nat} {v : Value} (h : w.ownsRow base 24 4 v (t.len + 1) (rowsTo t.kid x t.len ++ rowsTo (fun _ => u) (fun _ => y) 1))
    (hr : ∀ i, i < t.len → Rep w (t.kid i) (x i).1) (hu : Rep w u y.1) (hn : t.len + 1 ≤ 1000000) : ∃ a c, v = .slice a (t.len + 1) c ∧ Rep w (Tree.make 47 0 ⟨#[]⟩ (t.len + 1) (moreF t u)) a := by
  have h1 : rowsTo t.kid x t.len ++ rowsTo (fun _ => u) (fun _ => y) 1 = rowsTo (moreF t u) (fun i => if i < t.len then x i else y) (t.len + 1) := by
    rw [← rowsTo_app]
    congr 1
    · exact rowsTo_same fun i hi => by simp [moreF, hi]
    · exact rowsTo_same fun i hi => by
        have h2 : ¬ t.len + i < t.len := by omega
        simp only [moreF, if_neg h2, and_self]
  rw [h1] at h
  refine rep_of_row h (fun i hi => ?_) hn
  unfold moreF
  by_cases h2 : i < t.len
  · simp only [if_pos h2]; exact hr i h2
  · simp only [if_neg h2]; exact hu
/-- what the three statements behind the loop leave: a block without one statement, with one twice, with itself -/
def R19 (t : Tree) (A : Option Addr) (c N : Nat) (W : World) (x : Nat → Option Addr × Nat) (k m2 : Nat) (ad : Addr) (c2 : Nat) (a a' : Act) (w' : World) : Prop :=
  ∃ g0 r1 r2 Y, a' = { tmps := ((((((((((((((a.tmps.setIfInBounds 56 (.slice (some ⟨g0, 0, none⟩) 0 0)).setIfInBounds 57 (.pointer (some ⟨N, 3, none⟩))).setIfInBounds 58 (.slice A t.len c)).setIfInBounds 59 (.int .i64 k)).setIfInBounds 60 (.slice A k c)).setIfInBounds 61 (r1)).setIfInBounds 62 (.pointer (some ⟨N, 3, none⟩))).setIfInBounds 63 (.slice A t.len c)).setIfInBounds 64 (.int .i64 k)).setIfInBounds 65 (.int .i64 ((k : Int) + 1))).setIfInBounds 66 (.slice (some ad) m2 c2)).setIfInBounds 67 (r2)).setIfInBounds 68 (.agg #[.int .u8 47, .int .i64 0, .string ⟨#[]⟩, r2])).setIfInBounds 11 (.pointer (some ⟨Y, 0, none⟩))), defers := a.defers } ∧ PartEnd t A c N W w' r2 (k + m2) (rowsTo t.kid x k ++ rowsTo (fun i => t.kid (k + 1 + i)) (fun i => x (k + 1 + i)) m2) Y
def R20 (t : Tree) (A : Option Addr) (c N : Nat) (W : World) (x : Nat → Option Addr × Nat) (k kb ko : Nat) (a a' : Act) (w' : World) : Prop :=
  ∃ g0 g1 r1 r2 Y, a' = { tmps := (((((((((((((a.tmps.setIfInBounds 69 (.slice (some ⟨g0, 0, none⟩) 0 0)).setIfInBounds 70 (.pointer (some ⟨N, 3, none⟩))).setIfInBounds 71 (.slice A t.len c)).setIfInBounds 72 (r1)).setIfInBounds 73 (.pointer (some ⟨N, 3, none⟩))).setIfInBounds 74 (.slice A t.len c)).setIfInBounds 75 (.int .i64 k)).setIfInBounds 76 (.pointer (some ⟨kb, ko + k * 4, none⟩))).setIfInBounds 77 ((t.kid k).val (x k).1 (x k).2)).setIfInBounds 78 (.slice (some ⟨g1, 0, none⟩) 1 1)).setIfInBounds 79 (r2)).setIfInBounds 80 (.agg #[.int .u8 47, .int .i64 0, .string ⟨#[]⟩, r2])).setIfInBounds 12 (.pointer (some ⟨Y, 0, none⟩))), defers := a.defers } ∧ PartEnd t A c N W w' r2 (t.len + 1) (rowsTo t.kid x t.len ++ rowsTo (fun _ => t.kid k) (fun _ => x k) 1) Y
def R21 (t : Tree) (A : Option Addr) (c N : Nat) (W : World) (x : Nat → Option Addr × Nat) (a a' : Act) (w' : World) : Prop :=
  ∃ g0 g1 r1 r2 Y, a' = { tmps := (((((((((a.tmps.setIfInBounds 81 (.slice (some ⟨g0, 0, none⟩) 0 0)).setIfInBounds 82 (.pointer (some ⟨N, 3, none⟩))).setIfInBounds 83 (.slice A t.len c)).setIfInBounds 84 (r1)).setIfInBounds 85 (t.val A c)).setIfInBounds 86 (.slice (some ⟨g1, 0, none⟩) 1 1)).setIfInBounds 87 (r2)).setIfInBounds 88 (.agg #[.int .u8 47, .int .i64 0, .string ⟨#[]⟩, r2])).setIfInBounds 13 (.pointer (some ⟨Y, 0, none⟩))), defers := a.defers } ∧ PartEnd t A c N W w' r2 (t.len + 1) (rowsTo t.kid x t.len ++ rowsTo (fun _ => t) (fun _ => (A, c)) 1) Y
theorem cut_wp {P : Program} {cd : Code} {Q : Exit → Act → World → Prop} {a : Act} {W : World} (R : Act → Act → World → Prop)
    (h : cd.wp P (OnlyN (R a)) a W) (hq : ∀ a' w', R a a' w' → Q .normal a' w') : cd.wp P Q a W :=
  wp_mono h fun e a' w' h' => by cases e <;> first | exact hq a' w' h' | exact (h' : False).elim

/-- the return of the law, its answer laid, behind the loop -/
theorem parts_end {w Wh : World} {D : Nat} {T : Array Value} (hr : Wh.heap[w.heap.size + 1]? = some (.cells #[.bool false] 4)) (hD : Wh.heap[D]? = some (.deferred (some []))) (hB : Below w.heap.size w Wh) (hne : w.heap.size + 1 < D)
    (hT : T[4]? = some (.pointer (some ⟨w.heap.size + 1, 0, none⟩)) := by rfl) :
    bodyPostM Fence.wide 0 Tryd.prog Tryd.f6 (fun e w' => e = .returned (.bool true) ∧ Below w.heap.size w w') .ret { tmps := T, defers := [{ target := .collected D, args := #[] }] } (Wh.setCell ⟨w.heap.size + 1, 0, none⟩ (.bool true)) := by
  have hE : (Wh.setCell ⟨w.heap.size + 1, 0, none⟩ (.bool true)).heap[D]? = some (.deferred (some [])) := (Below.heap_setCell _ _ _ _ (by show D ≠ w.heap.size + 1; omega)).trans hD
  have hr9 : ((Wh.setCell ⟨w.heap.size + 1, 0, none⟩ (.bool true)).putObj D (.deferred none)).cell? ⟨w.heap.size + 1, 0, none⟩ = some (.bool true) :=
    (World.cell?_of_block (a := ⟨w.heap.size + 1, 0, none⟩) (World.putObj_heap_other (by show w.heap.size + 1 ≠ D; omega))).trans (World.cell?_setCell_same' _ _ _ (by rw [cell_of_one hr]; rfl))
  have hb9 := hB.setCell (p := ⟨w.heap.size + 1, 0, none⟩) (Nat.le_succ _) (.bool true)
  have hDs : w.heap.size ≤ D := by omega
  refine ⟨by simp, .inl ⟨_, _, rfl, run_takeDeferred hE, ?_⟩⟩
  refine ⟨.bool true, by simp [results, Tryd.results6, go_sem, hr9, hT], rfl, ?_⟩
  exact ⟨hb9.os, hb9.tape, hb9.output, by have := hb9.size; simpa using this, fun k hk => (World.putObj_heap_other (by omega)).trans (hb9.block k hk)⟩

/-- the return ahead of the loop -/
theorem parts_early {w Wh : World} {T : Array Value} (hr : Wh.heap[w.heap.size + 1]? = some (.cells #[.bool false] 4)) (hB : Below w.heap.size w Wh)
    (hT : T[4]? = some (.pointer (some ⟨w.heap.size + 1, 0, none⟩)) := by rfl) :
    bodyPostM Fence.wide 0 Tryd.prog Tryd.f6 (fun e w' => e = .returned (.bool true) ∧ Below w.heap.size w w') .ret { tmps := T, defers := [] } (Wh.setCell ⟨w.heap.size + 1, 0, none⟩ (.bool true)) := by
  have hr9 : (Wh.setCell ⟨w.heap.size + 1, 0, none⟩ (.bool true)).cell? ⟨w.heap.size + 1, 0, none⟩ = some (.bool true) := World.cell?_setCell_same' _ _ _ (by rw [cell_of_one hr]; rfl)
  refine ⟨.bool true, by simp [results, Tryd.results6, go_sem, hr9, hT], rfl, ?_⟩
  exact hB.setCell (by show w.heap.size ≤ w.heap.size + 1; omega) _

set_option maxHeartbeats 40000000 in
theorem astParts_of (HW : AwakeAt) (t : Tree) (w : World) (a : Option Addr) (c : Nat) (n : Int) (h0 : 0 ≤ n) (h1 : n ≤ 255) (hcap : t.len ≤ c) (ht : Rep w t a) (hg : SignsIn w) :
    Calls Tryd.prog 6 #[t.val a c, .int .u8 n] w fun e w' => e = .returned (.bool true) ∧ Below w.heap.size w w' := by
  have HT := Lib.hid ht
  have HG := Lib.hid hg
  clear ht hg
  have HB0 : Hid (Below (w.heap.size + 1 + 1) ((w.alloc (boxObj t a c)).alloc (.cells #[.bool false] 4)) ((w.alloc (boxObj t a c)).alloc (.cells #[.bool false] 4))) := Below.refl _ _
  refine (callsIn_wide (n := 0)).1 (callsIn_of_wp_marks Tryd.func6 rfl trivial ?_ rfl)
  refine wpIn_wide.2 ?_
  simp only [Tryd.ntmps6, List.size_toArray, List.length_cons, List.length_nil, Nat.reduceAdd, Nat.reduceSub, Array.replicate_succ, Array.replicate_zero, List.push_toArray, List.append_toArray, List.nil_append, List.cons_append]
  go_wp2_with fail
  refine (HW _ (HG.out.below two_alloc)).mono ?_
  rintro e w1 ⟨rfl, hB1⟩
  have HB1 := Lib.hid (HB0.out.trans (hB1.mono (by simp)))
  have f0 : w1.cell? ⟨w.heap.size, 0, none⟩ = some (.int .u8 t.kind) := (HB1.out.cell (p := ⟨w.heap.size, 0, none⟩) (by show w.heap.size < _; omega)).trans (by simp [World.cell?_alloc_lt])
  have f1 : w1.cell? ⟨w.heap.size, 1, none⟩ = some (.int .i64 t.num) := (HB1.out.cell (p := ⟨w.heap.size, 1, none⟩) (by show w.heap.size < _; omega)).trans (by simp [World.cell?_alloc_lt])
  have f2 : w1.cell? ⟨w.heap.size, 2, none⟩ = some (.string t.name) := (HB1.out.cell (p := ⟨w.heap.size, 2, none⟩) (by show w.heap.size < _; omega)).trans (by simp [World.cell?_alloc_lt])
  have f3 : w1.cell? ⟨w.heap.size, 3, none⟩ = some (.slice a t.len c) := (HB1.out.cell (p := ⟨w.heap.size, 3, none⟩) (by show w.heap.size < _; omega)).trans (by simp [World.cell?_alloc_lt])
  clear hB1
  go_wp2_with fail
  by_cases hbig : t.big
  · refine (big_yes t _ a c (HT.out.below (two_alloc.trans (HB1.out.mono (by omega)))) hbig).mono ?_
    rintro e w2 ⟨rfl, hB2⟩
    have HB2 := Lib.hid (HB1.out.trans (hB2.mono (by have := HB1.out.size; simpa using this)))
    have HRES : Hid (w2.heap[w.heap.size + 1]? = some (.cells #[.bool false] 4)) := (HB2.out.block _ (by omega)).trans (by have := World.alloc_heap_new (w.alloc (boxObj t a c)) (.cells #[.bool false] 4); rwa [World.size_alloc] at this)
    have r1 := cell_of_one HRES.out
    have r2 := free_of_one HRES.out
    clear hB2
    go_wp2_with fail
    exact parts_early HRES.out (two_alloc.trans (HB2.out.mono (by omega)))
  refine (big_no t _ a c (HT.out.below (two_alloc.trans (HB1.out.mono (by omega)))) hbig).mono ?_
  rintro e w2 ⟨rfl, hB2⟩
  have HB2 := Lib.hid (HB1.out.trans (hB2.mono (by have := HB1.out.size; simpa using this)))
  have hz2 : w.heap.size + 1 + 1 ≤ w2.heap.size := by have := HB2.out.size; simpa using this
  have g0 := cell_below hB2 f0
  have g1 := cell_below hB2 f1
  have g2 := cell_below hB2 f2
  have g3 := cell_below hB2 f3
  have hsm := Tree.small hbig
  clear hB2 f0 f1 f2 f3 hbig
  go_wp2_with fail
  have HBW2 : Hid (Below w.heap.size w w2) := two_alloc.trans (HB2.out.mono (by omega))
  refine (isBlock_any t _ a c (HT.out.below HBW2.out) (HG.out.below HBW2.out)).mono ?_
  rintro e w3 ⟨he, hB3⟩
  by_cases hv : t.vld 98 = false
  · rw [hv] at he
    subst he
    have HB3 := Lib.hid (HB2.out.trans (hB3.mono (by omega)))
    have HRES : Hid (w3.heap[w.heap.size + 1]? = some (.cells #[.bool false] 4)) := (HB3.out.block _ (by omega)).trans (by have := World.alloc_heap_new (w.alloc (boxObj t a c)) (.cells #[.bool false] 4); rwa [World.size_alloc] at this)
    have r1 := cell_of_one HRES.out
    have r2 := free_of_one HRES.out
    clear hB3 g0 g1 g2 g3 hv
    go_wp2_with fail
    exact parts_early HRES.out (two_alloc.trans (HB3.out.mono (by omega)))
  have hv : t.vld 98 = true := by simpa using hv
  rw [hv] at he
  subst he
  have HV := Lib.hid hv
  have HB3 := Lib.hid (HB2.out.trans (hB3.mono (by omega)))
  have hz3 : w.heap.size + 1 + 1 ≤ w3.heap.size := by have := hB3.size; omega
  have f0 := cell_below hB3 g0
  have f1 := cell_below hB3 g1
  have f2 := cell_below hB3 g2
  have f3 := cell_below hB3 g3
  clear hB3 g0 g1 g2 g3 hv
  go_wp2_with fail
  have HBW3 : Hid (Below w.heap.size w w3) := two_alloc.trans (HB3.out.mono (by omega))
  refine (walk_any t _ a c (HT.out.below HBW3.out) (by omega) (by omega)).mono ?_
  rintro e w4 ⟨br, rfl, hB4, hit⟩
  have HIT := Lib.hid hit
  have HB34 := Lib.hid hB4
  have hz4 : w3.heap.size ≤ w4.heap.size := hB4.size
  have HB4 := Lib.hid (HB3.out.trans (hB4.mono hz3))
  have HBW4 : Hid (Below w.heap.size w w4) := two_alloc.trans (HB4.out.mono (by omega))
  have HG4 : Hid (SignsIn w4) := HG.out.below HBW4.out
  clear hit hB4 f0 f1 f2 f3
  go_wp2_with fail
  refine range_wpT (gf := 44) (lb := #[.pointer (some ⟨br, 0, none⟩)]) rfl (enters_of Tryd.func44 (by kernel_rfl) rfl) HIT.out (fun _ => False) ?_ ?_ ?_ ?_ (fun _ W => SignsIn W) (fun _ _ _ => False) ?_ ?_ HG4.out (PrtM w4.heap.size) ?_ ?assign ?body ?done ?stop
  · intro k h; exact h.elim
  · intro k h; exact h.elim
  · exact fun k h => h.2
  · rintro O x args W ⟨v, a, c, rfl, _⟩; rfl
  · exact fun pre A B h hk => h.keep HG4.out.lt hk
  · exact fun c pre A B h _ => h
  · exact fun x a' A B h hk => h.keep hk
  case assign =>
    rintro m l pre x args W K hI hz ⟨v, a5, c5, rfl, hp, hr⟩ hK
    have HR5 := Lib.hid hr
    have HK := Lib.hid hK
    have HBX : Hid (Below W.heap.size W (W.alloc (boxObj x.2 a5 c5))) := (Below.refl _ _).alloc (Nat.le_refl _) _
    clear hp hr hI hK
    simp only [List.zip_toArray, List.zip_cons_cons, List.zip_nil_right, List.foldl_toArray, List.foldl_cons, List.foldl_nil, List.setIfInBounds_toArray, List.set_cons_zero, List.set_cons_succ]
    gi_wp2
    exact HK.out _ _ HBX.out ⟨v, a5, c5, W.heap.size, rfl, HR5.out.move (fun k _ hk => HBX.out.block k hk) (fun _ h _ => h), World.alloc_heap_new W _, by omega⟩
  case body =>
    rintro m l pre x a' W hpx hI hz ⟨v, a5, c5, bx, rfl, hr, hbx, hbl⟩
    have HX := Lib.hid (one_kind HV.out (mem_of_pre hpx))
    have HR5 := Lib.hid hr.rep
    have HBX := Lib.hid hbx
    have HI := Lib.hid hI
    obtain ⟨⟨m0, m1, m2, m3⟩, _⟩ := blk4 hbx
    clear hr hbx hI hpx
    simp only [List.setIfInBounds_toArray, List.set_cons_zero, List.set_cons_succ]
    gi_wp2
    generalize hb0 : x.2.vld 101 = b0 at HX
    generalize hb1 : x.2.vld 115 = b1 at HX
    generalize hb2 : x.2.vld 98 = b2 at HX
    have HE0 := Lib.hid hb0
    have HE1 := Lib.hid hb1
    have HE2 := Lib.hid hb2
    clear hb0 hb1 hb2 m0 m1 m2 m3
    refine cut_normal (fun T => PrtR T x.2 a5 c5 bx b0 b1 b2 W) ?_ ?_
    · refine round_held (S := BoxS x.2 a5 c5 bx W) (by kernel_rfl) (by kernel_rfl) OnlyN.no ⟨HBX.out, (Below.refl _ _).drew⟩ (fun hHeld => ?_)
      refine wpAnyH_take (i := 0) (v := x.2.val a5 c5) rfl (by kernel_rfl) (by kernel_rfl) (by kernel_rfl) (fun _ _ _ h => h) (Or.inl ⟨by rfl, ?_⟩) (by assumption) ?_
      · intro w' hSw; obtain ⟨⟨q0, q1, q2, q3⟩, _⟩ := blk4 hSw.box; clear hSw; go_simp
      (try simp only [Act.put, List.getElem_toArray, List.getElem_cons_zero, List.setIfInBounds_toArray, List.set_cons_zero, List.set_cons_succ])
      refine wpAnyH_take (i := 2) (v := x.2.val a5 c5) rfl (by kernel_rfl) (by kernel_rfl) (by kernel_rfl) (fun _ _ _ h => h) (Or.inl ⟨by rfl, ?_⟩) (by assumption) ?_
      · intro w' hSw; obtain ⟨⟨q0, q1, q2, q3⟩, _⟩ := blk4 hSw.box; clear hSw; go_simp
      (try simp only [Act.put, List.getElem_toArray, List.getElem_cons_zero, List.getElem_cons_succ, List.setIfInBounds_toArray, List.set_cons_zero, List.set_cons_succ])
      refine wpAnyH_take (i := 4) (v := x.2.val a5 c5) rfl (by kernel_rfl) (by kernel_rfl) (by kernel_rfl) (fun _ _ _ h => h) (Or.inl ⟨by rfl, ?_⟩) (by assumption) ?_
      · intro w' hSw; obtain ⟨⟨q0, q1, q2, q3⟩, _⟩ := blk4 hSw.box; clear hSw; go_simp
      (try simp only [Act.put, List.getElem_toArray, List.getElem_cons_zero, List.getElem_cons_succ, List.setIfInBounds_toArray, List.set_cons_zero, List.set_cons_succ])
      refine wpAnyH_take (i := 8) (v := .int .i64 0) rfl (by kernel_rfl) (by kernel_rfl) (by kernel_rfl) (fun _ _ _ h => h) (Or.inl ⟨by rfl, ?_⟩) (by assumption) ?_
      · intro w' hSw; go_simp
      (try simp only [Act.put, List.getElem_toArray, List.getElem_cons_zero, List.getElem_cons_succ, List.setIfInBounds_toArray, List.set_cons_zero, List.set_cons_succ])
      refine wpAnyH_ready (rs := [1]) (by kernel_rfl) (by simp) (AllReadyH.cons rfl (fun K hK => ?_) AllReadyH.nil)
      go_simp
      refine (isExpr_any x.2 _ a5 c5 (HR5.out.below hHeld.bel) (HI.out.below hHeld.bel)).mono ?_
      rintro e w5 ⟨he, hB⟩
      rw [HE0.out] at he
      subst he
      refine hK.out _ _ (hHeld.next hB) (fun hHeld => ?_)
      clear hK K
      rename_i hOld
      clear hOld
      (try simp only [Act.put, List.getElem_toArray, List.getElem_cons_zero, List.getElem_cons_succ, List.setIfInBounds_toArray, List.set_cons_zero, List.set_cons_succ])
      clear hB
      refine wpAnyH_ready (rs := [3]) (by kernel_rfl) (by simp) (AllReadyH.cons rfl (fun K hK => ?_) AllReadyH.nil)
      go_simp
      refine (isStmt_any x.2 _ a5 c5 (HR5.out.below hHeld.bel) (HI.out.below hHeld.bel)).mono ?_
      rintro e w6 ⟨he, hB⟩
      rw [HE1.out] at he
      subst he
      refine hK.out _ _ (hHeld.next hB) (fun hHeld => ?_)
      clear hK K
      rename_i hOld
      clear hOld
      (try simp only [Act.put, List.getElem_toArray, List.getElem_cons_zero, List.getElem_cons_succ, List.setIfInBounds_toArray, List.set_cons_zero, List.set_cons_succ])
      clear hB
      refine wpAnyH_ready (rs := [5]) (by kernel_rfl) (by simp) (AllReadyH.cons rfl (fun K hK => ?_) AllReadyH.nil)
      go_simp
      refine (isBlock_any x.2 _ a5 c5 (HR5.out.below hHeld.bel) (HI.out.below hHeld.bel)).mono ?_
      rintro e w7 ⟨he, hB⟩
      rw [HE2.out] at he
      subst he
      refine hK.out _ _ (hHeld.next hB) (fun hHeld => ?_)
      clear hK K
      rename_i hOld
      clear hOld
      (try simp only [Act.put, List.getElem_toArray, List.getElem_cons_zero, List.getElem_cons_succ, List.setIfInBounds_toArray, List.set_cons_zero, List.set_cons_succ])
      clear hB
      refine wpAnyH_ready (rs := [6]) (by kernel_rfl) (by simp) (AllReadyH.cons rfl (fun K hK => ?_) AllReadyH.nil)
      go_simp
      refine hK.out _ _ (hHeld.next ((Below.refl _ _).alloc (Nat.le_refl _) _)) (fun hHeld => ?_)
      clear hK K
      rename_i hOld
      clear hOld
      (try simp only [Act.put, List.getElem_toArray, List.getElem_cons_zero, List.getElem_cons_succ, List.setIfInBounds_toArray, List.set_cons_zero, List.set_cons_succ])
      refine wpAnyH_take (i := 7) (v := .int .i64 3) rfl (by kernel_rfl) (by kernel_rfl) (by kernel_rfl) (fun _ _ _ h => h) (Or.inl ⟨by rfl, ?_⟩) (by assumption) ?_
      · intro w' hSw; go_simp
      (try simp only [Act.put, List.getElem_toArray, List.getElem_cons_zero, List.getElem_cons_succ, List.setIfInBounds_toArray, List.set_cons_zero, List.set_cons_succ])
      refine wpAnyH_done (by kernel_rfl) ?_ _
      exact ⟨w7.heap.size, by simp only [List.setIfInBounds_toArray, List.set_cons_zero, List.set_cons_succ], hHeld, World.alloc_heap_new w7 _⟩
    · rintro a' w8 ⟨g, rfl, hbs, hcs⟩
      have HBS := Lib.hid hbs
      have HCS := Lib.hid hcs
      clear hbs hcs
      simp only [List.setIfInBounds_toArray, List.set_cons_zero, List.set_cons_succ]
      gi_wp2
      have hc0 : w8.cell? ⟨g, 0, none⟩ = some (.bool b0) := by simp [World.cell?, HCS.out]
      have hc1 : w8.cell? ⟨g, 1, none⟩ = some (.bool b1) := by simp [World.cell?, HCS.out]
      have hc2 : w8.cell? ⟨g, 2, none⟩ = some (.bool b2) := by simp [World.cell?, HCS.out]
      have HSE : Hid (SignsIn w8) := HI.out.below HBS.out.bel
      have HKE : Hid (Keep (fun _ => False) W w8) := ⟨HBS.out.bel.os, HBS.out.bel.tape, HBS.out.bel.output, HBS.out.bel.size, fun k _ hl => HBS.out.bel.block k hl⟩
      gi_loopw [7, 36] (fun kv iv wr => ∃ k : Int, (k = 0 ∨ k = 1 ∨ k = 2 ∨ k = 3) ∧ iv = .int .i64 k ∧ kv = .int .i64 (cntB b0 b1 b2 k) ∧ wr = w8) (fun _ iv _ => 3 - (intOf iv).toNat)
      case atStart => exact ⟨0, .inl rfl, rfl, by rw [cntB_zero], rfl⟩
      case round =>
        obtain ⟨k, hk, rfl, rfl, rfl⟩ := hrel
        obtain ⟨v, hv⟩ : ∃ v, cntB b0 b1 b2 k = v := ⟨_, rfl⟩
        rw [hv]
        rcases HX.out with ⟨rfl, rfl, rfl⟩ | ⟨rfl, rfl, rfl⟩ | ⟨rfl, rfl, rfl⟩ <;> rcases hk with rfl | rfl | rfl | rfl
        all_goals
          simp [cntB] at hv
          subst hv
          gi_wp2
          first
            | exact prt_rel (by decide) (by decide) (by decide)
            | exact ⟨HKE.out, HSE.out⟩
  case stop =>
    rintro c q W hq hn
    exact hn.elim
  case done =>
    rintro W hI hK hD
    have HBWW : Hid (Below w4.heap.size w4 W) := ⟨hK.os, hK.tape, hK.output, hK.size, fun k hk => hK.block k (fun h => h.elim) hk⟩
    have HB5 := Lib.hid (HB4.out.trans (HBWW.out.mono (by omega)))
    have HBW5 : Hid (Below w.heap.size w W) := two_alloc.trans (HB5.out.mono (by omega))
    have HD := Lib.hid hD
    have HS5 := Lib.hid hI
    have HBOX : Hid (W.heap[w.heap.size]? = some (boxObj t a c)) := (HB5.out.block _ (by omega)).trans two_heap
    have HRES : Hid (W.heap[w.heap.size + 1]? = some (.cells #[.bool false] 4)) := (HB5.out.block _ (by omega)).trans (by have := World.alloc_heap_new (w.alloc (boxObj t a c)) (.cells #[.bool false] 4); rwa [World.size_alloc] at this)
    have r1 := cell_of_one HRES.out
    have r2 := free_of_one HRES.out
    obtain ⟨⟨b0, b1, b2, b3⟩, _⟩ := blk4 HBOX.out
    have hzW : w4.heap.size < W.heap.size := (Array.getElem?_eq_some_iff.1 hD).1
    clear hI hK hD
    by_cases hl0 : t.len = 0
    · have hl1 : ((t.len : Int) == 0) = true := by rw [hl0]; rfl
      have HL0 := Lib.hid hl0
      clear hl0
      go_wp2_with fail
      exact parts_end HRES.out HD.out HBW5.out (by omega)
    · have hl1 : ((t.len : Int) == 0) = false := by simp; omega
      have hlen : t.len ≤ 500 := by have := tree_len_le t; omega
      obtain ⟨k, hk⟩ : ∃ k : Nat, n % (t.len : Int) = k := ⟨(n % (t.len : Int)).toNat, by have := Int.emod_nonneg n (b := (t.len : Int)) (by omega); omega⟩
      have hkl : k < t.len := by have := Int.emod_lt_of_pos n (b := (t.len : Int)) (by omega); omega
      have hlp : (0 : Int) < (t.len : Int) := by omega
      rcases HT.out.kids with h | ⟨kb, ko, rfl, hkids⟩
      · exact absurd h hl0
      obtain ⟨x, hx⟩ : ∃ x : Nat → Option Addr × Nat, ∀ i, i < t.len → NodeAt w kb (ko + i * 4) (t.kid i) (x i).1 (x i).2 ∧ Rep w (t.kid i) (x i).1 := by
        have each : ∀ i, ∃ y : Option Addr × Nat, i < t.len → NodeAt w kb (ko + i * 4) (t.kid i) y.1 y.2 ∧ Rep w (t.kid i) y.1 := by
          intro i
          by_cases hi : i < t.len
          · obtain ⟨ai, ci, h1, h2⟩ := hkids i hi
            exact ⟨(ai, ci), fun _ => ⟨h1, h2⟩⟩
          · exact ⟨(none, 0), fun h => absurd h hi⟩
        exact Classical.axiomOfChoice each
      have HX := Lib.hid hx
      have HK := Lib.hid hk
      have HL0 := Lib.hid hl0
      clear hx hkids hl0
      go_wp2_with fail
      rw [HK.out]
      obtain ⟨i0, hi, hz0, hz1, hz2⟩ := info_parts Tryd.infoNode
      have HPS19 : Hid (PartS t (some ⟨kb, ko, none⟩) c w.heap.size W W.drew) := ⟨HBOX.out, (Below.refl _ _).drew, by omega⟩
      have HKW : Hid (∀ i, i < t.len → NodeAt W kb (ko + i * 4) (t.kid i) (x i).1 (x i).2) := fun i hi => (HX.out i hi).1.below HBW5.out (HX.out i hi).1.lt
      have KC0 : Hid (∀ v, PartS t (some ⟨kb, ko, none⟩) c w.heap.size W v → ∀ j u, (rowsTo t.kid x k)[j]? = some u → v.cell? ((⟨kb, ko, none⟩ : Addr).add j) = some u) := by
        intro v hv
        have := kids_cells (hv.kids HKW.out) (lo := 0) (m := k) (by omega)
        simpa using this
      obtain ⟨m2, hm2⟩ : ∃ m2, m2 + (k + 1) = t.len := ⟨t.len - (k + 1), by omega⟩
      have hk0 : (0 : Int) ≤ (k : Int) := by omega
      have hk1 : (k : Int) ≤ (c : Int) := by omega
      have hwk : IntKind.i64.wrap ((k : Int) + 1) = (k : Int) + 1 := IntWalk.i64_in _ (by omega)
      have hk2 : (0 : Int) ≤ (k : Int) + 1 := by omega
      have hk3 : (k : Int) + 1 ≤ (t.len : Int) := by omega
      have hk4 : (k : Int) + 1 ≤ (c : Int) := by omega
      obtain ⟨ad, had, had2⟩ : ∃ ad : Addr, (if c = k + 1 then some (⟨kb, ko, none⟩ : Addr) else some ⟨kb, ko + (k + 1) * 4, none⟩) = some ad ∧ (0 < m2 → ad = ⟨kb, ko + (k + 1) * 4, none⟩) := by
        by_cases h : c = k + 1
        · exact ⟨⟨kb, ko, none⟩, by rw [if_pos h], fun h' => by omega⟩
        · exact ⟨_, by rw [if_neg h], fun _ => rfl⟩
      obtain ⟨c2, hc2⟩ : ∃ c2, c - (k + 1) = c2 := ⟨_, rfl⟩
      have HAD := Lib.hid had
      have HC2 := Lib.hid hc2
      have HM2 : Hid (t.len - (k + 1) = m2) := by show _ = _; omega
      have KC1 : Hid (∀ v, PartS t (some ⟨kb, ko, none⟩) c w.heap.size W v → ∀ j u, (rowsTo (fun i => t.kid (k + 1 + i)) (fun i => x (k + 1 + i)) m2)[j]? = some u → v.cell? (ad.add j) = some u) := by
        intro v hv j u hu
        by_cases hm : 0 < m2
        · rw [had2 hm]
          exact kids_cells (hv.kids HKW.out) (lo := k + 1) (m := m2) (by omega) j u hu
        · obtain rfl : m2 = 0 := by omega
          cases hu
      clear r1 r2 b0 b1 b2 b3 had had2 hc2
      have hml : m2 ≤ 500 := by omega
      have HM3 := Lib.hid hm2
      clear hm2
      refine cut_wp (R19 t (some ⟨kb, ko, none⟩) c w.heap.size W x k m2 ad c2) ?_ ?_
      ·
        refine wp_region_held_drew (S := PartS t (some ⟨kb, ko, none⟩) c w.heap.size W) (by kernel_rfl) HPS19.out (fun hHeld => ?_)
        generalize hw0 : World.drew _ = v0 at hHeld ⊢
        clear hw0
        have HST0 := Lib.hid (PartSt.begin hHeld)
        refine wpAnyH_take (i := 1) (v := .pointer (some ⟨w.heap.size, 3, none⟩)) rfl (by kernel_rfl) (by kernel_rfl) (by kernel_rfl) (fun _ _ _ h => h) (Or.inl ⟨by rfl, ?_⟩) (by assumption) ?_
        · intro w' hSw; go_simp
        (try simp only [Act.put, List.getElem_toArray, List.getElem_cons_zero, List.getElem_cons_succ, List.setIfInBounds_toArray, List.set_cons_zero, List.set_cons_succ])
        refine wpAnyH_take (i := 2) (v := .slice (some ⟨kb, ko, none⟩) t.len c) rfl (by kernel_rfl) (by kernel_rfl) (by kernel_rfl) (fun _ _ _ h => h) (Or.inl ⟨by rfl, ?_⟩) (by assumption) ?_
        · intro w' hSw; obtain ⟨⟨q0, q1, q2, q3⟩, _⟩ := blk4 hSw.box; clear hSw; go_simp
        (try simp only [Act.put, List.getElem_toArray, List.getElem_cons_zero, List.getElem_cons_succ, List.setIfInBounds_toArray, List.set_cons_zero, List.set_cons_succ])
        refine wpAnyH_take (i := 3) (v := .int .i64 k) rfl (by kernel_rfl) (by kernel_rfl) (by kernel_rfl) (fun _ _ _ h => h) (Or.inl ⟨by rfl, ?_⟩) (by assumption) ?_
        · intro w' hSw; go_simp
        (try simp only [Act.put, List.getElem_toArray, List.getElem_cons_zero, List.getElem_cons_succ, List.setIfInBounds_toArray, List.set_cons_zero, List.set_cons_succ])
        refine wpAnyH_take (i := 4) (v := .slice (some ⟨kb, ko, none⟩) k c) rfl (by kernel_rfl) (by kernel_rfl) (by kernel_rfl) (fun _ _ _ h => h) (Or.inl ⟨by rfl, ?_⟩) (by assumption) ?_
        · intro w' hSw; go_simp
        (try simp only [Act.put, List.getElem_toArray, List.getElem_cons_zero, List.getElem_cons_succ, List.setIfInBounds_toArray, List.set_cons_zero, List.set_cons_succ])
        refine wpAnyH_take (i := 6) (v := .pointer (some ⟨w.heap.size, 3, none⟩)) rfl (by kernel_rfl) (by kernel_rfl) (by kernel_rfl) (fun _ _ _ h => h) (Or.inl ⟨by rfl, ?_⟩) (by assumption) ?_
        · intro w' hSw; go_simp
        (try simp only [Act.put, List.getElem_toArray, List.getElem_cons_zero, List.getElem_cons_succ, List.setIfInBounds_toArray, List.set_cons_zero, List.set_cons_succ])
        refine wpAnyH_take (i := 7) (v := .slice (some ⟨kb, ko, none⟩) t.len c) rfl (by kernel_rfl) (by kernel_rfl) (by kernel_rfl) (fun _ _ _ h => h) (Or.inl ⟨by rfl, ?_⟩) (by assumption) ?_
        · intro w' hSw; obtain ⟨⟨q0, q1, q2, q3⟩, _⟩ := blk4 hSw.box; clear hSw; go_simp
        (try simp only [Act.put, List.getElem_toArray, List.getElem_cons_zero, List.getElem_cons_succ, List.setIfInBounds_toArray, List.set_cons_zero, List.set_cons_succ])
        refine wpAnyH_take (i := 8) (v := .int .i64 k) rfl (by kernel_rfl) (by kernel_rfl) (by kernel_rfl) (fun _ _ _ h => h) (Or.inl ⟨by rfl, ?_⟩) (by assumption) ?_
        · intro w' hSw; go_simp
        (try simp only [Act.put, List.getElem_toArray, List.getElem_cons_zero, List.getElem_cons_succ, List.setIfInBounds_toArray, List.set_cons_zero, List.set_cons_succ])
        refine wpAnyH_take (i := 9) (v := .int .i64 ((k : Int) + 1)) rfl (by kernel_rfl) (by kernel_rfl) (by kernel_rfl) (fun _ _ _ h => h) (Or.inl ⟨by rfl, ?_⟩) (by assumption) ?_
        · intro w' hSw; go_simp
        (try simp only [Act.put, List.getElem_toArray, List.getElem_cons_zero, List.getElem_cons_succ, List.setIfInBounds_toArray, List.set_cons_zero, List.set_cons_succ])
        refine wpAnyH_take (i := 10) (v := .slice (some ad) m2 c2) rfl (by kernel_rfl) (by kernel_rfl) (by kernel_rfl) (fun _ _ _ h => h) (Or.inl ⟨by rfl, ?_⟩) (by assumption) ?_
        · intro w' hSw; go_simp; exact ⟨HAD.out, HM2.out, HC2.out⟩
        (try simp only [Act.put, List.getElem_toArray, List.getElem_cons_zero, List.getElem_cons_succ, List.setIfInBounds_toArray, List.set_cons_zero, List.set_cons_succ])
        refine wpAnyH_ready (rs := [0, 13]) (by kernel_rfl) (by simp) (AllReadyH.cons rfl (fun K hK => ?_) (AllReadyH.cons rfl (fun K hK => ?_) AllReadyH.nil))
        · skip
          go_simp
          have HST1 := Lib.hid HST0.out.start
          refine hK.out _ _ HST1.out.ps (fun hHeld => ?_)
          clear hK K
          rename_i hOld
          clear hOld
          (try simp only [Act.put, List.getElem_toArray, List.getElem_cons_zero, List.getElem_cons_succ, List.setIfInBounds_toArray, List.set_cons_zero, List.set_cons_succ])
          generalize hw : World.alloc v0 _ = v1 at hHeld HST1 ⊢
          clear hw
          refine wpAnyH_ready (rs := [5, 13]) (by kernel_rfl) (by simp) (AllReadyH.cons rfl (fun K hK => ?_) (AllReadyH.cons rfl (fun K hK => ?_) AllReadyH.nil))
          · skip
            refine step_append_at rfl (.tmp 56) (.tmp 60) 22 rfl W.heap.size 24 i0 _ 4 56 Tryd.underlying22 hi hz0 hz1 hz2 rfl (by decide) (.slice (some ⟨v0.heap.size, 0, none⟩) 0 0) 0 [] (by simp [Act.eval]) HST1.out.own ⟨kb, ko, none⟩ k c (rowsTo t.kid x k) (by simp [Act.eval]) (rowsTo_len _ _ _) (KC0.out _ HST1.out.ps) rowsTo_one (by unfold maxLen; omega) (by omega) HST1.out.ps.bel.size ?_
            intro r2 v2 hown hgrow hplace
            rw [Nat.zero_add, List.nil_append] at hown
            obtain ⟨ra2, rc2, rfl⟩ := own_slice hown
            have HST2 := Lib.hid (HST1.out.grow hown hgrow hplace)
            refine hK.out _ _ HST2.out.ps (fun hHeld => ?_)
            clear hK K hown hgrow hplace
            rename_i hOld
            clear hOld
            (try simp only [Act.put, List.getElem_toArray, List.getElem_cons_zero, List.getElem_cons_succ, List.setIfInBounds_toArray, List.set_cons_zero, List.set_cons_succ])
            refine wpAnyH_ready (rs := [11, 13]) (by kernel_rfl) (by simp) (AllReadyH.cons rfl (fun K hK => ?_) (AllReadyH.cons rfl (fun K hK => ?_) AllReadyH.nil))
            · skip
              refine step_append_at rfl (.tmp 61) (.tmp 66) 22 rfl W.heap.size 24 i0 _ 4 56 Tryd.underlying22 hi hz0 hz1 hz2 rfl (by decide) (.slice ra2 k rc2) k (rowsTo t.kid x k) (by simp [Act.eval]) HST2.out.own ad m2 c2 (rowsTo (fun i => t.kid (k + 1 + i)) (fun i => x (k + 1 + i)) m2) (by simp [Act.eval]) (rowsTo_len _ _ _) (KC1.out _ HST2.out.ps) rowsTo_one (by unfold maxLen; omega) (by omega) HST2.out.ps.bel.size ?_
              intro r3 v3 hown hgrow hplace
              obtain ⟨ra3, rc3, rfl⟩ := own_slice hown
              have HST3 := Lib.hid (HST2.out.grow hown hgrow hplace)
              refine hK.out _ _ HST3.out.ps (fun hHeld => ?_)
              clear hK K hown hgrow hplace
              rename_i hOld
              clear hOld
              (try simp only [Act.put, List.getElem_toArray, List.getElem_cons_zero, List.getElem_cons_succ, List.setIfInBounds_toArray, List.set_cons_zero, List.set_cons_succ])
              refine wpAnyH_take (i := 12) (v := .agg #[.int .u8 47, .int .i64 0, .string ⟨#[]⟩, (.slice ra3 (k + m2) rc3)]) rfl (by kernel_rfl) (by kernel_rfl) (by kernel_rfl) (fun _ _ _ h => h) (Or.inl ⟨by rfl, ?_⟩) (by assumption) ?_
              · intro w' hSw; go_simp
              (try simp only [Act.put, List.getElem_toArray, List.getElem_cons_zero, List.getElem_cons_succ, List.setIfInBounds_toArray, List.set_cons_zero, List.set_cons_succ])
              refine wpAnyH_ready (rs := [13]) (by kernel_rfl) (by simp) (AllReadyH.cons rfl (fun K hK => ?_) AllReadyH.nil)
              go_simp
              have HST4 := Lib.hid (HST3.out.alloc (.cells #[.int .u8 0, .int .i64 0, .string ⟨#[]⟩, .slice none 0 0] 24))
              refine hK.out _ _ HST4.out.ps (fun hHeld => ?_)
              clear hK K
              rename_i hOld
              clear hOld
              (try simp only [Act.put, List.getElem_toArray, List.getElem_cons_zero, List.getElem_cons_succ, List.setIfInBounds_toArray, List.set_cons_zero, List.set_cons_succ])
              generalize hw : World.alloc v3 _ = v4 at hHeld HST4 ⊢
              clear hw
              obtain ⟨⟨z0, z1, z2, z3⟩, y0, y1, y2, y3⟩ := blk4 (HST4.out.blk (v3.heap.size, (.cells #[.int .u8 0, .int .i64 0, .string ⟨#[]⟩, .slice none 0 0] 24)) (by simp)).1
              refine wpAnyH_ready (rs := [14]) (by kernel_rfl) (by simp) (AllReadyH.cons rfl (fun K hK => ?_) AllReadyH.nil)
              go_simp
              have HE := Lib.hid (HST4.out.put (Y := v3.heap.size) (by simp))
              refine hK.out _ _ HE.out.ps (fun hHeld => ?_)
              refine wpAnyH_done (by kernel_rfl) ?_ _
              exact ⟨v0.heap.size, (.slice ra2 k rc2), (.slice ra3 (k + m2) rc3), v3.heap.size, by simp only [List.setIfInBounds_toArray, List.set_cons_zero, List.set_cons_succ], HE.out⟩
            · skip
              go_simp
              have HST3 := Lib.hid (HST2.out.alloc (.cells #[.int .u8 0, .int .i64 0, .string ⟨#[]⟩, .slice none 0 0] 24))
              refine hK.out _ _ HST3.out.ps (fun hHeld => ?_)
              clear hK K
              rename_i hOld
              clear hOld
              (try simp only [Act.put, List.getElem_toArray, List.getElem_cons_zero, List.getElem_cons_succ, List.setIfInBounds_toArray, List.set_cons_zero, List.set_cons_succ])
              generalize hw : World.alloc v2 _ = v3 at hHeld HST3 ⊢
              clear hw
              refine wpAnyH_ready (rs := [11]) (by kernel_rfl) (by simp) (AllReadyH.cons rfl (fun K hK => ?_) AllReadyH.nil)
              refine step_append_at rfl (.tmp 61) (.tmp 66) 22 rfl W.heap.size 24 i0 _ 4 56 Tryd.underlying22 hi hz0 hz1 hz2 rfl (by decide) (.slice ra2 k rc2) k (rowsTo t.kid x k) (by simp [Act.eval]) HST3.out.own ad m2 c2 (rowsTo (fun i => t.kid (k + 1 + i)) (fun i => x (k + 1 + i)) m2) (by simp [Act.eval]) (rowsTo_len _ _ _) (KC1.out _ HST3.out.ps) rowsTo_one (by unfold maxLen; omega) (by omega) HST3.out.ps.bel.size ?_
              intro r4 v4 hown hgrow hplace
              obtain ⟨ra4, rc4, rfl⟩ := own_slice hown
              have HST4 := Lib.hid (HST3.out.grow hown hgrow hplace)
              refine hK.out _ _ HST4.out.ps (fun hHeld => ?_)
              clear hK K hown hgrow hplace
              rename_i hOld
              clear hOld
              (try simp only [Act.put, List.getElem_toArray, List.getElem_cons_zero, List.getElem_cons_succ, List.setIfInBounds_toArray, List.set_cons_zero, List.set_cons_succ])
              refine wpAnyH_take (i := 12) (v := .agg #[.int .u8 47, .int .i64 0, .string ⟨#[]⟩, (.slice ra4 (k + m2) rc4)]) rfl (by kernel_rfl) (by kernel_rfl) (by kernel_rfl) (fun _ _ _ h => h) (Or.inl ⟨by rfl, ?_⟩) (by assumption) ?_
              · intro w' hSw; go_simp
              (try simp only [Act.put, List.getElem_toArray, List.getElem_cons_zero, List.getElem_cons_succ, List.setIfInBounds_toArray, List.set_cons_zero, List.set_cons_succ])
              obtain ⟨⟨z0, z1, z2, z3⟩, y0, y1, y2, y3⟩ := blk4 (HST4.out.blk (v2.heap.size, (.cells #[.int .u8 0, .int .i64 0, .string ⟨#[]⟩, .slice none 0 0] 24)) (by simp)).1
              refine wpAnyH_ready (rs := [14]) (by kernel_rfl) (by simp) (AllReadyH.cons rfl (fun K hK => ?_) AllReadyH.nil)
              go_simp
              have HE := Lib.hid (HST4.out.put (Y := v2.heap.size) (by simp))
              refine hK.out _ _ HE.out.ps (fun hHeld => ?_)
              refine wpAnyH_done (by kernel_rfl) ?_ _
              exact ⟨v0.heap.size, (.slice ra2 k rc2), (.slice ra4 (k + m2) rc4), v2.heap.size, by simp only [List.setIfInBounds_toArray, List.set_cons_zero, List.set_cons_succ], HE.out⟩
          · skip
            go_simp
            have HST2 := Lib.hid (HST1.out.alloc (.cells #[.int .u8 0, .int .i64 0, .string ⟨#[]⟩, .slice none 0 0] 24))
            refine hK.out _ _ HST2.out.ps (fun hHeld => ?_)
            clear hK K
            rename_i hOld
            clear hOld
            (try simp only [Act.put, List.getElem_toArray, List.getElem_cons_zero, List.getElem_cons_succ, List.setIfInBounds_toArray, List.set_cons_zero, List.set_cons_succ])
            generalize hw : World.alloc v1 _ = v2 at hHeld HST2 ⊢
            clear hw
            refine wpAnyH_ready (rs := [5]) (by kernel_rfl) (by simp) (AllReadyH.cons rfl (fun K hK => ?_) AllReadyH.nil)
            refine step_append_at rfl (.tmp 56) (.tmp 60) 22 rfl W.heap.size 24 i0 _ 4 56 Tryd.underlying22 hi hz0 hz1 hz2 rfl (by decide) (.slice (some ⟨v0.heap.size, 0, none⟩) 0 0) 0 [] (by simp [Act.eval]) HST2.out.own ⟨kb, ko, none⟩ k c (rowsTo t.kid x k) (by simp [Act.eval]) (rowsTo_len _ _ _) (KC0.out _ HST2.out.ps) rowsTo_one (by unfold maxLen; omega) (by omega) HST2.out.ps.bel.size ?_
            intro r3 v3 hown hgrow hplace
            rw [Nat.zero_add, List.nil_append] at hown
            obtain ⟨ra3, rc3, rfl⟩ := own_slice hown
            have HST3 := Lib.hid (HST2.out.grow hown hgrow hplace)
            refine hK.out _ _ HST3.out.ps (fun hHeld => ?_)
            clear hK K hown hgrow hplace
            rename_i hOld
            clear hOld
            (try simp only [Act.put, List.getElem_toArray, List.getElem_cons_zero, List.getElem_cons_succ, List.setIfInBounds_toArray, List.set_cons_zero, List.set_cons_succ])
            refine wpAnyH_ready (rs := [11]) (by kernel_rfl) (by simp) (AllReadyH.cons rfl (fun K hK => ?_) AllReadyH.nil)
            refine step_append_at rfl (.tmp 61) (.tmp 66) 22 rfl W.heap.size 24 i0 _ 4 56 Tryd.underlying22 hi hz0 hz1 hz2 rfl (by decide) (.slice ra3 k rc3) k (rowsTo t.kid x k) (by simp [Act.eval]) HST3.out.own ad m2 c2 (rowsTo (fun i => t.kid (k + 1 + i)) (fun i => x (k + 1 + i)) m2) (by simp [Act.eval]) (rowsTo_len _ _ _) (KC1.out _ HST3.out.ps) rowsTo_one (by unfold maxLen; omega) (by omega) HST3.out.ps.bel.size ?_
            intro r4 v4 hown hgrow hplace
            obtain ⟨ra4, rc4, rfl⟩ := own_slice hown
            have HST4 := Lib.hid (HST3.out.grow hown hgrow hplace)
            refine hK.out _ _ HST4.out.ps (fun hHeld => ?_)
            clear hK K hown hgrow hplace
            rename_i hOld
            clear hOld
            (try simp only [Act.put, List.getElem_toArray, List.getElem_cons_zero, List.getElem_cons_succ, List.setIfInBounds_toArray, List.set_cons_zero, List.set_cons_succ])
            refine wpAnyH_take (i := 12) (v := .agg #[.int .u8 47, .int .i64 0, .string ⟨#[]⟩, (.slice ra4 (k + m2) rc4)]) rfl (by kernel_rfl) (by kernel_rfl) (by kernel_rfl) (fun _ _ _ h => h) (Or.inl ⟨by rfl, ?_⟩) (by assumption) ?_
            · intro w' hSw; go_simp
            (try simp only [Act.put, List.getElem_toArray, List.getElem_cons_zero, List.getElem_cons_succ, List.setIfInBounds_toArray, List.set_cons_zero, List.set_cons_succ])
            obtain ⟨⟨z0, z1, z2, z3⟩, y0, y1, y2, y3⟩ := blk4 (HST4.out.blk (v1.heap.size, (.cells #[.int .u8 0, .int .i64 0, .string ⟨#[]⟩, .slice none 0 0] 24)) (by simp)).1
            refine wpAnyH_ready (rs := [14]) (by kernel_rfl) (by simp) (AllReadyH.cons rfl (fun K hK => ?_) AllReadyH.nil)
            go_simp
            have HE := Lib.hid (HST4.out.put (Y := v1.heap.size) (by simp))
            refine hK.out _ _ HE.out.ps (fun hHeld => ?_)
            refine wpAnyH_done (by kernel_rfl) ?_ _
            exact ⟨v0.heap.size, (.slice ra3 k rc3), (.slice ra4 (k + m2) rc4), v1.heap.size, by simp only [List.setIfInBounds_toArray, List.set_cons_zero, List.set_cons_succ], HE.out⟩
        · skip
          go_simp
          have HST1 := Lib.hid (HST0.out.alloc (.cells #[.int .u8 0, .int .i64 0, .string ⟨#[]⟩, .slice none 0 0] 24))
          refine hK.out _ _ HST1.out.ps (fun hHeld => ?_)
          clear hK K
          rename_i hOld
          clear hOld
          (try simp only [Act.put, List.getElem_toArray, List.getElem_cons_zero, List.getElem_cons_succ, List.setIfInBounds_toArray, List.set_cons_zero, List.set_cons_succ])
          generalize hw : World.alloc v0 _ = v1 at hHeld HST1 ⊢
          clear hw
          refine wpAnyH_ready (rs := [0]) (by kernel_rfl) (by simp) (AllReadyH.cons rfl (fun K hK => ?_) AllReadyH.nil)
          go_simp
          have HST2 := Lib.hid HST1.out.start
          refine hK.out _ _ HST2.out.ps (fun hHeld => ?_)
          clear hK K
          rename_i hOld
          clear hOld
          (try simp only [Act.put, List.getElem_toArray, List.getElem_cons_zero, List.getElem_cons_succ, List.setIfInBounds_toArray, List.set_cons_zero, List.set_cons_succ])
          generalize hw : World.alloc v1 _ = v2 at hHeld HST2 ⊢
          clear hw
          refine wpAnyH_ready (rs := [5]) (by kernel_rfl) (by simp) (AllReadyH.cons rfl (fun K hK => ?_) AllReadyH.nil)
          refine step_append_at rfl (.tmp 56) (.tmp 60) 22 rfl W.heap.size 24 i0 _ 4 56 Tryd.underlying22 hi hz0 hz1 hz2 rfl (by decide) (.slice (some ⟨v1.heap.size, 0, none⟩) 0 0) 0 [] (by simp [Act.eval]) HST2.out.own ⟨kb, ko, none⟩ k c (rowsTo t.kid x k) (by simp [Act.eval]) (rowsTo_len _ _ _) (KC0.out _ HST2.out.ps) rowsTo_one (by unfold maxLen; omega) (by omega) HST2.out.ps.bel.size ?_
          intro r3 v3 hown hgrow hplace
          rw [Nat.zero_add, List.nil_append] at hown
          obtain ⟨ra3, rc3, rfl⟩ := own_slice hown
          have HST3 := Lib.hid (HST2.out.grow hown hgrow hplace)
          refine hK.out _ _ HST3.out.ps (fun hHeld => ?_)
          clear hK K hown hgrow hplace
          rename_i hOld
          clear hOld
          (try simp only [Act.put, List.getElem_toArray, List.getElem_cons_zero, List.getElem_cons_succ, List.setIfInBounds_toArray, List.set_cons_zero, List.set_cons_succ])
          refine wpAnyH_ready (rs := [11]) (by kernel_rfl) (by simp) (AllReadyH.cons rfl (fun K hK => ?_) AllReadyH.nil)
          refine step_append_at rfl (.tmp 61) (.tmp 66) 22 rfl W.heap.size 24 i0 _ 4 56 Tryd.underlying22 hi hz0 hz1 hz2 rfl (by decide) (.slice ra3 k rc3) k (rowsTo t.kid x k) (by simp [Act.eval]) HST3.out.own ad m2 c2 (rowsTo (fun i => t.kid (k + 1 + i)) (fun i => x (k + 1 + i)) m2) (by simp [Act.eval]) (rowsTo_len _ _ _) (KC1.out _ HST3.out.ps) rowsTo_one (by unfold maxLen; omega) (by omega) HST3.out.ps.bel.size ?_
          intro r4 v4 hown hgrow hplace
          obtain ⟨ra4, rc4, rfl⟩ := own_slice hown
          have HST4 := Lib.hid (HST3.out.grow hown hgrow hplace)
          refine hK.out _ _ HST4.out.ps (fun hHeld => ?_)
          clear hK K hown hgrow hplace
          rename_i hOld
          clear hOld
          (try simp only [Act.put, List.getElem_toArray, List.getElem_cons_zero, List.getElem_cons_succ, List.setIfInBounds_toArray, List.set_cons_zero, List.set_cons_succ])
          refine wpAnyH_take (i := 12) (v := .agg #[.int .u8 47, .int .i64 0, .string ⟨#[]⟩, (.slice ra4 (k + m2) rc4)]) rfl (by kernel_rfl) (by kernel_rfl) (by kernel_rfl) (fun _ _ _ h => h) (Or.inl ⟨by rfl, ?_⟩) (by assumption) ?_
          · intro w' hSw; go_simp
          (try simp only [Act.put, List.getElem_toArray, List.getElem_cons_zero, List.getElem_cons_succ, List.setIfInBounds_toArray, List.set_cons_zero, List.set_cons_succ])
          obtain ⟨⟨z0, z1, z2, z3⟩, y0, y1, y2, y3⟩ := blk4 (HST4.out.blk (v0.heap.size, (.cells #[.int .u8 0, .int .i64 0, .string ⟨#[]⟩, .slice none 0 0] 24)) (by simp)).1
          refine wpAnyH_ready (rs := [14]) (by kernel_rfl) (by simp) (AllReadyH.cons rfl (fun K hK => ?_) AllReadyH.nil)
          go_simp
          have HE := Lib.hid (HST4.out.put (Y := v0.heap.size) (by simp))
          refine hK.out _ _ HE.out.ps (fun hHeld => ?_)
          refine wpAnyH_done (by kernel_rfl) ?_ _
          exact ⟨v1.heap.size, (.slice ra3 k rc3), (.slice ra4 (k + m2) rc4), v0.heap.size, by simp only [List.setIfInBounds_toArray, List.set_cons_zero, List.set_cons_succ], HE.out⟩
      · rintro a' Wb ⟨g0, s1, s2, Y1, rfl, hE1⟩
        have HE1 := Lib.hid hE1
        have hWb : W.heap.size ≤ Wb.heap.size := hE1.ps.bel.size
        clear hE1
        simp only [List.setIfInBounds_toArray, List.set_cons_zero, List.set_cons_succ]
        have HPS20 : Hid (PartS t (some ⟨kb, ko, none⟩) c w.heap.size Wb Wb.drew) := ⟨HE1.out.ps.box, (Below.refl _ _).drew, by omega⟩
        have HKWb : Hid (∀ i, i < t.len → NodeAt Wb kb (ko + i * 4) (t.kid i) (x i).1 (x i).2) := HE1.out.ps.kids HKW.out
        have KC2 : Hid (∀ v, PartS t (some ⟨kb, ko, none⟩) c w.heap.size Wb v → ∀ j u, (rowsTo t.kid x t.len)[j]? = some u → v.cell? ((⟨kb, ko, none⟩ : Addr).add j) = some u) := by
          intro v hv
          have := kids_cells (hv.kids HKWb.out) (lo := 0) (m := t.len) (by omega)
          simpa using this
        have HKK : Hid (∀ v, Below Wb.heap.size Wb v → v.cell? ⟨kb, ko + k * 4, none⟩ = some (.int .u8 (t.kid k).kind) ∧ v.cell? ⟨kb, ko + k * 4 + 1, none⟩ = some (.int .i64 (t.kid k).num) ∧ v.cell? ⟨kb, ko + k * 4 + 2, none⟩ = some (.string (t.kid k).name) ∧ v.cell? ⟨kb, ko + k * 4 + 3, none⟩ = some (.slice (x k).1 (t.kid k).len (x k).2)) := by
          intro v hB
          have h := (HKWb.out k hkl).below hB (HKWb.out k hkl).lt
          exact ⟨h.kind, h.num, h.name, h.kids⟩
        have hk5 : (k : Int) < (t.len : Int) := by omega
        go_wp2_with fail
        refine cut_wp (R20 t (some ⟨kb, ko, none⟩) c w.heap.size Wb x k kb ko) ?_ ?_
        ·
          refine wp_region_held_drew (S := PartS t (some ⟨kb, ko, none⟩) c w.heap.size Wb) (by kernel_rfl) HPS20.out (fun hHeld => ?_)
          generalize hw0 : World.drew _ = v0 at hHeld ⊢
          clear hw0
          have HST0 := Lib.hid (PartSt.begin hHeld)
          refine wpAnyH_take (i := 1) (v := .pointer (some ⟨w.heap.size, 3, none⟩)) rfl (by kernel_rfl) (by kernel_rfl) (by kernel_rfl) (fun _ _ _ h => h) (Or.inl ⟨by rfl, ?_⟩) (by assumption) ?_
          · intro w' hSw; go_simp
          (try simp only [Act.put, List.getElem_toArray, List.getElem_cons_zero, List.getElem_cons_succ, List.setIfInBounds_toArray, List.set_cons_zero, List.set_cons_succ])
          refine wpAnyH_take (i := 2) (v := .slice (some ⟨kb, ko, none⟩) t.len c) rfl (by kernel_rfl) (by kernel_rfl) (by kernel_rfl) (fun _ _ _ h => h) (Or.inl ⟨by rfl, ?_⟩) (by assumption) ?_
          · intro w' hSw; obtain ⟨⟨q0, q1, q2, q3⟩, _⟩ := blk4 hSw.box; clear hSw; go_simp
          (try simp only [Act.put, List.getElem_toArray, List.getElem_cons_zero, List.getElem_cons_succ, List.setIfInBounds_toArray, List.set_cons_zero, List.set_cons_succ])
          refine wpAnyH_take (i := 4) (v := .pointer (some ⟨w.heap.size, 3, none⟩)) rfl (by kernel_rfl) (by kernel_rfl) (by kernel_rfl) (fun _ _ _ h => h) (Or.inl ⟨by rfl, ?_⟩) (by assumption) ?_
          · intro w' hSw; go_simp
          (try simp only [Act.put, List.getElem_toArray, List.getElem_cons_zero, List.getElem_cons_succ, List.setIfInBounds_toArray, List.set_cons_zero, List.set_cons_succ])
          refine wpAnyH_take (i := 5) (v := .slice (some ⟨kb, ko, none⟩) t.len c) rfl (by kernel_rfl) (by kernel_rfl) (by kernel_rfl) (fun _ _ _ h => h) (Or.inl ⟨by rfl, ?_⟩) (by assumption) ?_
          · intro w' hSw; obtain ⟨⟨q0, q1, q2, q3⟩, _⟩ := blk4 hSw.box; clear hSw; go_simp
          (try simp only [Act.put, List.getElem_toArray, List.getElem_cons_zero, List.getElem_cons_succ, List.setIfInBounds_toArray, List.set_cons_zero, List.set_cons_succ])
          refine wpAnyH_take (i := 6) (v := .int .i64 k) rfl (by kernel_rfl) (by kernel_rfl) (by kernel_rfl) (fun _ _ _ h => h) (Or.inl ⟨by rfl, ?_⟩) (by assumption) ?_
          · intro w' hSw; go_simp
          (try simp only [Act.put, List.getElem_toArray, List.getElem_cons_zero, List.getElem_cons_succ, List.setIfInBounds_toArray, List.set_cons_zero, List.set_cons_succ])
          refine wpAnyH_take (i := 7) (v := .pointer (some ⟨kb, ko + k * 4, none⟩)) rfl (by kernel_rfl) (by kernel_rfl) (by kernel_rfl) (fun _ _ _ h => h) (Or.inl ⟨by rfl, ?_⟩) (by assumption) ?_
          · intro w' hSw; go_simp
          (try simp only [Act.put, List.getElem_toArray, List.getElem_cons_zero, List.getElem_cons_succ, List.setIfInBounds_toArray, List.set_cons_zero, List.set_cons_succ])
          refine wpAnyH_take (i := 8) (v := (t.kid k).val (x k).1 (x k).2) rfl (by kernel_rfl) (by kernel_rfl) (by kernel_rfl) (fun _ _ _ h => h) (Or.inl ⟨by rfl, ?_⟩) (by assumption) ?_
          · intro w' hSw; obtain ⟨q0, q1, q2, q3⟩ := HKK.out _ hSw.bel; clear hSw; go_simp
          (try simp only [Act.put, List.getElem_toArray, List.getElem_cons_zero, List.getElem_cons_succ, List.setIfInBounds_toArray, List.set_cons_zero, List.set_cons_succ])
          refine wpAnyH_ready (rs := [0, 9, 12]) (by kernel_rfl) (by simp) (AllReadyH.cons rfl (fun K hK => ?_) (AllReadyH.cons rfl (fun K hK => ?_) (AllReadyH.cons rfl (fun K hK => ?_) AllReadyH.nil)))
          · skip
            go_simp
            have HST1 := Lib.hid HST0.out.start
            refine hK.out _ _ HST1.out.ps (fun hHeld => ?_)
            clear hK K
            rename_i hOld
            clear hOld
            (try simp only [Act.put, List.getElem_toArray, List.getElem_cons_zero, List.getElem_cons_succ, List.setIfInBounds_toArray, List.set_cons_zero, List.set_cons_succ])
            generalize hw : World.alloc v0 _ = v1 at hHeld HST1 ⊢
            clear hw
            refine wpAnyH_ready (rs := [3, 9, 12]) (by kernel_rfl) (by simp) (AllReadyH.cons rfl (fun K hK => ?_) (AllReadyH.cons rfl (fun K hK => ?_) (AllReadyH.cons rfl (fun K hK => ?_) AllReadyH.nil)))
            · skip
              refine step_append_at rfl (.tmp 69) (.tmp 71) 22 rfl Wb.heap.size 24 i0 _ 4 56 Tryd.underlying22 hi hz0 hz1 hz2 rfl (by decide) (.slice (some ⟨v0.heap.size, 0, none⟩) 0 0) 0 [] (by simp [Act.eval]) HST1.out.own ⟨kb, ko, none⟩ t.len c (rowsTo t.kid x t.len) (by simp [Act.eval]) (rowsTo_len _ _ _) (KC2.out _ HST1.out.ps) rowsTo_one (by unfold maxLen; omega) (by omega) HST1.out.ps.bel.size ?_
              intro r2 v2 hown hgrow hplace
              rw [Nat.zero_add, List.nil_append] at hown
              obtain ⟨ra2, rc2, rfl⟩ := own_slice hown
              have HST2 := Lib.hid (HST1.out.grow hown hgrow hplace)
              refine hK.out _ _ HST2.out.ps (fun hHeld => ?_)
              clear hK K hown hgrow hplace
              rename_i hOld
              clear hOld
              (try simp only [Act.put, List.getElem_toArray, List.getElem_cons_zero, List.getElem_cons_succ, List.setIfInBounds_toArray, List.set_cons_zero, List.set_cons_succ])
              refine wpAnyH_ready (rs := [9, 12]) (by kernel_rfl) (by simp) (AllReadyH.cons rfl (fun K hK => ?_) (AllReadyH.cons rfl (fun K hK => ?_) AllReadyH.nil))
              · skip
                go_simp
                have HST3 := Lib.hid (HST2.out.alloc (.cells #[.int .u8 (t.kid k).kind, .int .i64 (t.kid k).num, .string (t.kid k).name, .slice (x k).1 (t.kid k).len (x k).2] 24))
                refine hK.out _ _ HST3.out.ps (fun hHeld => ?_)
                clear hK K
                rename_i hOld
                clear hOld
                (try simp only [Act.put, List.getElem_toArray, List.getElem_cons_zero, List.getElem_cons_succ, List.setIfInBounds_toArray, List.set_cons_zero, List.set_cons_succ])
                generalize hw : World.alloc v2 _ = v3 at hHeld HST3 ⊢
                clear hw
                refine wpAnyH_ready (rs := [10, 12]) (by kernel_rfl) (by simp) (AllReadyH.cons rfl (fun K hK => ?_) (AllReadyH.cons rfl (fun K hK => ?_) AllReadyH.nil))
                · skip
                  refine step_append_at rfl (.tmp 72) (.tmp 78) 22 rfl Wb.heap.size 24 i0 _ 4 56 Tryd.underlying22 hi hz0 hz1 hz2 rfl (by decide) (.slice ra2 t.len rc2) t.len (rowsTo t.kid x t.len) (by simp [Act.eval]) HST3.out.own ⟨v2.heap.size, 0, none⟩ 1 1 (rowsTo (fun _ => (t.kid k)) (fun _ => (x k)) 1) (by simp [Act.eval]) (rowsTo_len _ _ _) (src_cells (u := (t.kid k)) (x := (x k)) (HST3.out.blk (v2.heap.size, (.cells #[.int .u8 (t.kid k).kind, .int .i64 (t.kid k).num, .string (t.kid k).name, .slice (x k).1 (t.kid k).len (x k).2] 24)) (by simp)).1) rowsTo_one (by unfold maxLen; omega) (by omega) HST3.out.ps.bel.size ?_
                  intro r4 v4 hown hgrow hplace
                  obtain ⟨ra4, rc4, rfl⟩ := own_slice hown
                  have HST4 := Lib.hid (HST3.out.grow hown hgrow hplace)
                  refine hK.out _ _ HST4.out.ps (fun hHeld => ?_)
                  clear hK K hown hgrow hplace
                  rename_i hOld
                  clear hOld
                  (try simp only [Act.put, List.getElem_toArray, List.getElem_cons_zero, List.getElem_cons_succ, List.setIfInBounds_toArray, List.set_cons_zero, List.set_cons_succ])
                  refine wpAnyH_take (i := 11) (v := .agg #[.int .u8 47, .int .i64 0, .string ⟨#[]⟩, (.slice ra4 (t.len + 1) rc4)]) rfl (by kernel_rfl) (by kernel_rfl) (by kernel_rfl) (fun _ _ _ h => h) (Or.inl ⟨by rfl, ?_⟩) (by assumption) ?_
                  · intro w' hSw; go_simp
                  (try simp only [Act.put, List.getElem_toArray, List.getElem_cons_zero, List.getElem_cons_succ, List.setIfInBounds_toArray, List.set_cons_zero, List.set_cons_succ])
                  refine wpAnyH_ready (rs := [12]) (by kernel_rfl) (by simp) (AllReadyH.cons rfl (fun K hK => ?_) AllReadyH.nil)
                  go_simp
                  have HST5 := Lib.hid (HST4.out.alloc (.cells #[.int .u8 0, .int .i64 0, .string ⟨#[]⟩, .slice none 0 0] 24))
                  refine hK.out _ _ HST5.out.ps (fun hHeld => ?_)
                  clear hK K
                  rename_i hOld
                  clear hOld
                  (try simp only [Act.put, List.getElem_toArray, List.getElem_cons_zero, List.getElem_cons_succ, List.setIfInBounds_toArray, List.set_cons_zero, List.set_cons_succ])
                  generalize hw : World.alloc v4 _ = v5 at hHeld HST5 ⊢
                  clear hw
                  obtain ⟨⟨z0, z1, z2, z3⟩, y0, y1, y2, y3⟩ := blk4 (HST5.out.blk (v4.heap.size, (.cells #[.int .u8 0, .int .i64 0, .string ⟨#[]⟩, .slice none 0 0] 24)) (by simp)).1
                  refine wpAnyH_ready (rs := [13]) (by kernel_rfl) (by simp) (AllReadyH.cons rfl (fun K hK => ?_) AllReadyH.nil)
                  go_simp
                  have HE := Lib.hid (HST5.out.put (Y := v4.heap.size) (by simp))
                  refine hK.out _ _ HE.out.ps (fun hHeld => ?_)
                  refine wpAnyH_done (by kernel_rfl) ?_ _
                  exact ⟨v0.heap.size, v2.heap.size, (.slice ra2 t.len rc2), (.slice ra4 (t.len + 1) rc4), v4.heap.size, by simp only [List.setIfInBounds_toArray, List.set_cons_zero, List.set_cons_succ], HE.out⟩
                · skip
                  go_simp
                  have HST4 := Lib.hid (HST3.out.alloc (.cells #[.int .u8 0, .int .i64 0, .string ⟨#[]⟩, .slice none 0 0] 24))
                  refine hK.out _ _ HST4.out.ps (fun hHeld => ?_)
                  clear hK K
                  rename_i hOld
                  clear hOld
                  (try simp only [Act.put, List.getElem_toArray, List.getElem_cons_zero, List.getElem_cons_succ, List.setIfInBounds_toArray, List.set_cons_zero, List.set_cons_succ])
                  generalize hw : World.alloc v3 _ = v4 at hHeld HST4 ⊢
                  clear hw
                  refine wpAnyH_ready (rs := [10]) (by kernel_rfl) (by simp) (AllReadyH.cons rfl (fun K hK => ?_) AllReadyH.nil)
                  refine step_append_at rfl (.tmp 72) (.tmp 78) 22 rfl Wb.heap.size 24 i0 _ 4 56 Tryd.underlying22 hi hz0 hz1 hz2 rfl (by decide) (.slice ra2 t.len rc2) t.len (rowsTo t.kid x t.len) (by simp [Act.eval]) HST4.out.own ⟨v2.heap.size, 0, none⟩ 1 1 (rowsTo (fun _ => (t.kid k)) (fun _ => (x k)) 1) (by simp [Act.eval]) (rowsTo_len _ _ _) (src_cells (u := (t.kid k)) (x := (x k)) (HST4.out.blk (v2.heap.size, (.cells #[.int .u8 (t.kid k).kind, .int .i64 (t.kid k).num, .string (t.kid k).name, .slice (x k).1 (t.kid k).len (x k).2] 24)) (by simp)).1) rowsTo_one (by unfold maxLen; omega) (by omega) HST4.out.ps.bel.size ?_
                  intro r5 v5 hown hgrow hplace
                  obtain ⟨ra5, rc5, rfl⟩ := own_slice hown
                  have HST5 := Lib.hid (HST4.out.grow hown hgrow hplace)
                  refine hK.out _ _ HST5.out.ps (fun hHeld => ?_)
                  clear hK K hown hgrow hplace
                  rename_i hOld
                  clear hOld
                  (try simp only [Act.put, List.getElem_toArray, List.getElem_cons_zero, List.getElem_cons_succ, List.setIfInBounds_toArray, List.set_cons_zero, List.set_cons_succ])
                  refine wpAnyH_take (i := 11) (v := .agg #[.int .u8 47, .int .i64 0, .string ⟨#[]⟩, (.slice ra5 (t.len + 1) rc5)]) rfl (by kernel_rfl) (by kernel_rfl) (by kernel_rfl) (fun _ _ _ h => h) (Or.inl ⟨by rfl, ?_⟩) (by assumption) ?_
                  · intro w' hSw; go_simp
                  (try simp only [Act.put, List.getElem_toArray, List.getElem_cons_zero, List.getElem_cons_succ, List.setIfInBounds_toArray, List.set_cons_zero, List.set_cons_succ])
                  obtain ⟨⟨z0, z1, z2, z3⟩, y0, y1, y2, y3⟩ := blk4 (HST5.out.blk (v3.heap.size, (.cells #[.int .u8 0, .int .i64 0, .string ⟨#[]⟩, .slice none 0 0] 24)) (by simp)).1
                  refine wpAnyH_ready (rs := [13]) (by kernel_rfl) (by simp) (AllReadyH.cons rfl (fun K hK => ?_) AllReadyH.nil)
                  go_simp
                  have HE := Lib.hid (HST5.out.put (Y := v3.heap.size) (by simp))
                  refine hK.out _ _ HE.out.ps (fun hHeld => ?_)
                  refine wpAnyH_done (by kernel_rfl) ?_ _
                  exact ⟨v0.heap.size, v2.heap.size, (.slice ra2 t.len rc2), (.slice ra5 (t.len + 1) rc5), v3.heap.size, by simp only [List.setIfInBounds_toArray, List.set_cons_zero, List.set_cons_succ], HE.out⟩
              · skip
                go_simp
                have HST3 := Lib.hid (HST2.out.alloc (.cells #[.int .u8 0, .int .i64 0, .string ⟨#[]⟩, .slice none 0 0] 24))
                refine hK.out _ _ HST3.out.ps (fun hHeld => ?_)
                clear hK K
                rename_i hOld
                clear hOld
                (try simp only [Act.put, List.getElem_toArray, List.getElem_cons_zero, List.getElem_cons_succ, List.setIfInBounds_toArray, List.set_cons_zero, List.set_cons_succ])
                generalize hw : World.alloc v2 _ = v3 at hHeld HST3 ⊢
                clear hw
                refine wpAnyH_ready (rs := [9]) (by kernel_rfl) (by simp) (AllReadyH.cons rfl (fun K hK => ?_) AllReadyH.nil)
                go_simp
                have HST4 := Lib.hid (HST3.out.alloc (.cells #[.int .u8 (t.kid k).kind, .int .i64 (t.kid k).num, .string (t.kid k).name, .slice (x k).1 (t.kid k).len (x k).2] 24))
                refine hK.out _ _ HST4.out.ps (fun hHeld => ?_)
                clear hK K
                rename_i hOld
                clear hOld
                (try simp only [Act.put, List.getElem_toArray, List.getElem_cons_zero, List.getElem_cons_succ, List.setIfInBounds_toArray, List.set_cons_zero, List.set_cons_succ])
                generalize hw : World.alloc v3 _ = v4 at hHeld HST4 ⊢
                clear hw
                refine wpAnyH_ready (rs := [10]) (by kernel_rfl) (by simp) (AllReadyH.cons rfl (fun K hK => ?_) AllReadyH.nil)
                refine step_append_at rfl (.tmp 72) (.tmp 78) 22 rfl Wb.heap.size 24 i0 _ 4 56 Tryd.underlying22 hi hz0 hz1 hz2 rfl (by decide) (.slice ra2 t.len rc2) t.len (rowsTo t.kid x t.len) (by simp [Act.eval]) HST4.out.own ⟨v3.heap.size, 0, none⟩ 1 1 (rowsTo (fun _ => (t.kid k)) (fun _ => (x k)) 1) (by simp [Act.eval]) (rowsTo_len _ _ _) (src_cells (u := (t.kid k)) (x := (x k)) (HST4.out.blk (v3.heap.size, (.cells #[.int .u8 (t.kid k).kind, .int .i64 (t.kid k).num, .string (t.kid k).name, .slice (x k).1 (t.kid k).len (x k).2] 24)) (by simp)).1) rowsTo_one (by unfold maxLen; omega) (by omega) HST4.out.ps.bel.size ?_
                intro r5 v5 hown hgrow hplace
                obtain ⟨ra5, rc5, rfl⟩ := own_slice hown
                have HST5 := Lib.hid (HST4.out.grow hown hgrow hplace)
                refine hK.out _ _ HST5.out.ps (fun hHeld => ?_)
                clear hK K hown hgrow hplace
                rename_i hOld
                clear hOld
                (try simp only [Act.put, List.getElem_toArray, List.getElem_cons_zero, List.getElem_cons_succ, List.setIfInBounds_toArray, List.set_cons_zero, List.set_cons_succ])
                refine wpAnyH_take (i := 11) (v := .agg #[.int .u8 47, .int .i64 0, .string ⟨#[]⟩, (.slice ra5 (t.len + 1) rc5)]) rfl (by kernel_rfl) (by kernel_rfl) (by kernel_rfl) (fun _ _ _ h => h) (Or.inl ⟨by rfl, ?_⟩) (by assumption) ?_
                · intro w' hSw; go_simp
                (try simp only [Act.put, List.getElem_toArray, List.getElem_cons_zero, List.getElem_cons_succ, List.setIfInBounds_toArray, List.set_cons_zero, List.set_cons_succ])
                obtain ⟨⟨z0, z1, z2, z3⟩, y0, y1, y2, y3⟩ := blk4 (HST5.out.blk (v2.heap.size, (.cells #[.int .u8 0, .int .i64 0, .string ⟨#[]⟩, .slice none 0 0] 24)) (by simp)).1
                refine wpAnyH_ready (rs := [13]) (by kernel_rfl) (by simp) (AllReadyH.cons rfl (fun K hK => ?_) AllReadyH.nil)
                go_simp
                have HE := Lib.hid (HST5.out.put (Y := v2.heap.size) (by simp))
                refine hK.out _ _ HE.out.ps (fun hHeld => ?_)
                refine wpAnyH_done (by kernel_rfl) ?_ _
                exact ⟨v0.heap.size, v3.heap.size, (.slice ra2 t.len rc2), (.slice ra5 (t.len + 1) rc5), v2.heap.size, by simp only [List.setIfInBounds_toArray, List.set_cons_zero, List.set_cons_succ], HE.out⟩
            · skip
              go_simp
              have HST2 := Lib.hid (HST1.out.alloc (.cells #[.int .u8 (t.kid k).kind, .int .i64 (t.kid k).num, .string (t.kid k).name, .slice (x k).1 (t.kid k).len (x k).2] 24))
              refine hK.out _ _ HST2.out.ps (fun hHeld => ?_)
              clear hK K
              rename_i hOld
              clear hOld
              (try simp only [Act.put, List.getElem_toArray, List.getElem_cons_zero, List.getElem_cons_succ, List.setIfInBounds_toArray, List.set_cons_zero, List.set_cons_succ])
              generalize hw : World.alloc v1 _ = v2 at hHeld HST2 ⊢
              clear hw
              refine wpAnyH_ready (rs := [3, 12]) (by kernel_rfl) (by simp) (AllReadyH.cons rfl (fun K hK => ?_) (AllReadyH.cons rfl (fun K hK => ?_) AllReadyH.nil))
              · skip
                refine step_append_at rfl (.tmp 69) (.tmp 71) 22 rfl Wb.heap.size 24 i0 _ 4 56 Tryd.underlying22 hi hz0 hz1 hz2 rfl (by decide) (.slice (some ⟨v0.heap.size, 0, none⟩) 0 0) 0 [] (by simp [Act.eval]) HST2.out.own ⟨kb, ko, none⟩ t.len c (rowsTo t.kid x t.len) (by simp [Act.eval]) (rowsTo_len _ _ _) (KC2.out _ HST2.out.ps) rowsTo_one (by unfold maxLen; omega) (by omega) HST2.out.ps.bel.size ?_
                intro r3 v3 hown hgrow hplace
                rw [Nat.zero_add, List.nil_append] at hown
                obtain ⟨ra3, rc3, rfl⟩ := own_slice hown
                have HST3 := Lib.hid (HST2.out.grow hown hgrow hplace)
                refine hK.out _ _ HST3.out.ps (fun hHeld => ?_)
                clear hK K hown hgrow hplace
                rename_i hOld
                clear hOld
                (try simp only [Act.put, List.getElem_toArray, List.getElem_cons_zero, List.getElem_cons_succ, List.setIfInBounds_toArray, List.set_cons_zero, List.set_cons_succ])
                refine wpAnyH_ready (rs := [10, 12]) (by kernel_rfl) (by simp) (AllReadyH.cons rfl (fun K hK => ?_) (AllReadyH.cons rfl (fun K hK => ?_) AllReadyH.nil))
                · skip
                  refine step_append_at rfl (.tmp 72) (.tmp 78) 22 rfl Wb.heap.size 24 i0 _ 4 56 Tryd.underlying22 hi hz0 hz1 hz2 rfl (by decide) (.slice ra3 t.len rc3) t.len (rowsTo t.kid x t.len) (by simp [Act.eval]) HST3.out.own ⟨v1.heap.size, 0, none⟩ 1 1 (rowsTo (fun _ => (t.kid k)) (fun _ => (x k)) 1) (by simp [Act.eval]) (rowsTo_len _ _ _) (src_cells (u := (t.kid k)) (x := (x k)) (HST3.out.blk (v1.heap.size, (.cells #[.int .u8 (t.kid k).kind, .int .i64 (t.kid k).num, .string (t.kid k).name, .slice (x k).1 (t.kid k).len (x k).2] 24)) (by simp)).1) rowsTo_one (by unfold maxLen; omega) (by omega) HST3.out.ps.bel.size ?_
                  intro r4 v4 hown hgrow hplace
                  obtain ⟨ra4, rc4, rfl⟩ := own_slice hown
                  have HST4 := Lib.hid (HST3.out.grow hown hgrow hplace)
                  refine hK.out _ _ HST4.out.ps (fun hHeld => ?_)
                  clear hK K hown hgrow hplace
                  rename_i hOld
                  clear hOld
                  (try simp only [Act.put, List.getElem_toArray, List.getElem_cons_zero, List.getElem_cons_succ, List.setIfInBounds_toArray, List.set_cons_zero, List.set_cons_succ])
                  refine wpAnyH_take (i := 11) (v := .agg #[.int .u8 47, .int .i64 0, .string ⟨#[]⟩, (.slice ra4 (t.len + 1) rc4)]) rfl (by kernel_rfl) (by kernel_rfl) (by kernel_rfl) (fun _ _ _ h => h) (Or.inl ⟨by rfl, ?_⟩) (by assumption) ?_
                  · intro w' hSw; go_simp
                  (try simp only [Act.put, List.getElem_toArray, List.getElem_cons_zero, List.getElem_cons_succ, List.setIfInBounds_toArray, List.set_cons_zero, List.set_cons_succ])
                  refine wpAnyH_ready (rs := [12]) (by kernel_rfl) (by simp) (AllReadyH.cons rfl (fun K hK => ?_) AllReadyH.nil)
                  go_simp
                  have HST5 := Lib.hid (HST4.out.alloc (.cells #[.int .u8 0, .int .i64 0, .string ⟨#[]⟩, .slice none 0 0] 24))
                  refine hK.out _ _ HST5.out.ps (fun hHeld => ?_)
                  clear hK K
                  rename_i hOld
                  clear hOld
                  (try simp only [Act.put, List.getElem_toArray, List.getElem_cons_zero, List.getElem_cons_succ, List.setIfInBounds_toArray, List.set_cons_zero, List.set_cons_succ])
                  generalize hw : World.alloc v4 _ = v5 at hHeld HST5 ⊢
                  clear hw
                  obtain ⟨⟨z0, z1, z2, z3⟩, y0, y1, y2, y3⟩ := blk4 (HST5.out.blk (v4.heap.size, (.cells #[.int .u8 0, .int .i64 0, .string ⟨#[]⟩, .slice none 0 0] 24)) (by simp)).1
                  refine wpAnyH_ready (rs := [13]) (by kernel_rfl) (by simp) (AllReadyH.cons rfl (fun K hK => ?_) AllReadyH.nil)
                  go_simp
                  have HE := Lib.hid (HST5.out.put (Y := v4.heap.size) (by simp))
                  refine hK.out _ _ HE.out.ps (fun hHeld => ?_)
                  refine wpAnyH_done (by kernel_rfl) ?_ _
                  exact ⟨v0.heap.size, v1.heap.size, (.slice ra3 t.len rc3), (.slice ra4 (t.len + 1) rc4), v4.heap.size, by simp only [List.setIfInBounds_toArray, List.set_cons_zero, List.set_cons_succ], HE.out⟩
                · skip
                  go_simp
                  have HST4 := Lib.hid (HST3.out.alloc (.cells #[.int .u8 0, .int .i64 0, .string ⟨#[]⟩, .slice none 0 0] 24))
                  refine hK.out _ _ HST4.out.ps (fun hHeld => ?_)
                  clear hK K
                  rename_i hOld
                  clear hOld
                  (try simp only [Act.put, List.getElem_toArray, List.getElem_cons_zero, List.getElem_cons_succ, List.setIfInBounds_toArray, List.set_cons_zero, List.set_cons_succ])
                  generalize hw : World.alloc v3 _ = v4 at hHeld HST4 ⊢
                  clear hw
                  refine wpAnyH_ready (rs := [10]) (by kernel_rfl) (by simp) (AllReadyH.cons rfl (fun K hK => ?_) AllReadyH.nil)
                  refine step_append_at rfl (.tmp 72) (.tmp 78) 22 rfl Wb.heap.size 24 i0 _ 4 56 Tryd.underlying22 hi hz0 hz1 hz2 rfl (by decide) (.slice ra3 t.len rc3) t.len (rowsTo t.kid x t.len) (by simp [Act.eval]) HST4.out.own ⟨v1.heap.size, 0, none⟩ 1 1 (rowsTo (fun _ => (t.kid k)) (fun _ => (x k)) 1) (by simp [Act.eval]) (rowsTo_len _ _ _) (src_cells (u := (t.kid k)) (x := (x k)) (HST4.out.blk (v1.heap.size, (.cells #[.int .u8 (t.kid k).kind, .int .i64 (t.kid k).num, .string (t.kid k).name, .slice (x k).1 (t.kid k).len (x k).2] 24)) (by simp)).1) rowsTo_one (by unfold maxLen; omega) (by omega) HST4.out.ps.bel.size ?_
                  intro r5 v5 hown hgrow hplace
                  obtain ⟨ra5, rc5, rfl⟩ := own_slice hown
                  have HST5 := Lib.hid (HST4.out.grow hown hgrow hplace)
                  refine hK.out _ _ HST5.out.ps (fun hHeld => ?_)
                  clear hK K hown hgrow hplace
                  rename_i hOld
                  clear hOld
                  (try simp only [Act.put, List.getElem_toArray, List.getElem_cons_zero, List.getElem_cons_succ, List.setIfInBounds_toArray, List.set_cons_zero, List.set_cons_succ])
                  refine wpAnyH_take (i := 11) (v := .agg #[.int .u8 47, .int .i64 0, .string ⟨#[]⟩, (.slice ra5 (t.len + 1) rc5)]) rfl (by kernel_rfl) (by kernel_rfl) (by kernel_rfl) (fun _ _ _ h => h) (Or.inl ⟨by rfl, ?_⟩) (by assumption) ?_
                  · intro w' hSw; go_simp
                  (try simp only [Act.put, List.getElem_toArray, List.getElem_cons_zero, List.getElem_cons_succ, List.setIfInBounds_toArray, List.set_cons_zero, List.set_cons_succ])
                  obtain ⟨⟨z0, z1, z2, z3⟩, y0, y1, y2, y3⟩ := blk4 (HST5.out.blk (v3.heap.size, (.cells #[.int .u8 0, .int .i64 0, .string ⟨#[]⟩, .slice none 0 0] 24)) (by simp)).1
                  refine wpAnyH_ready (rs := [13]) (by kernel_rfl) (by simp) (AllReadyH.cons rfl (fun K hK => ?_) AllReadyH.nil)
                  go_simp
                  have HE := Lib.hid (HST5.out.put (Y := v3.heap.size) (by simp))
                  refine hK.out _ _ HE.out.ps (fun hHeld => ?_)
                  refine wpAnyH_done (by kernel_rfl) ?_ _
                  exact ⟨v0.heap.size, v1.heap.size, (.slice ra3 t.len rc3), (.slice ra5 (t.len + 1) rc5), v3.heap.size, by simp only [List.setIfInBounds_toArray, List.set_cons_zero, List.set_cons_succ], HE.out⟩
              · skip
                go_simp
                have HST3 := Lib.hid (HST2.out.alloc (.cells #[.int .u8 0, .int .i64 0, .string ⟨#[]⟩, .slice none 0 0] 24))
                refine hK.out _ _ HST3.out.ps (fun hHeld => ?_)
                clear hK K
                rename_i hOld
                clear hOld
                (try simp only [Act.put, List.getElem_toArray, List.getElem_cons_zero, List.getElem_cons_succ, List.setIfInBounds_toArray, List.set_cons_zero, List.set_cons_succ])
                generalize hw : World.alloc v2 _ = v3 at hHeld HST3 ⊢
                clear hw
                refine wpAnyH_ready (rs := [3]) (by kernel_rfl) (by simp) (AllReadyH.cons rfl (fun K hK => ?_) AllReadyH.nil)
                refine step_append_at rfl (.tmp 69) (.tmp 71) 22 rfl Wb.heap.size 24 i0 _ 4 56 Tryd.underlying22 hi hz0 hz1 hz2 rfl (by decide) (.slice (some ⟨v0.heap.size, 0, none⟩) 0 0) 0 [] (by simp [Act.eval]) HST3.out.own ⟨kb, ko, none⟩ t.len c (rowsTo t.kid x t.len) (by simp [Act.eval]) (rowsTo_len _ _ _) (KC2.out _ HST3.out.ps) rowsTo_one (by unfold maxLen; omega) (by omega) HST3.out.ps.bel.size ?_
                intro r4 v4 hown hgrow hplace
                rw [Nat.zero_add, List.nil_append] at hown
                obtain ⟨ra4, rc4, rfl⟩ := own_slice hown
                have HST4 := Lib.hid (HST3.out.grow hown hgrow hplace)
                refine hK.out _ _ HST4.out.ps (fun hHeld => ?_)
                clear hK K hown hgrow hplace
                rename_i hOld
                clear hOld
                (try simp only [Act.put, List.getElem_toArray, List.getElem_cons_zero, List.getElem_cons_succ, List.setIfInBounds_toArray, List.set_cons_zero, List.set_cons_succ])
                refine wpAnyH_ready (rs := [10]) (by kernel_rfl) (by simp) (AllReadyH.cons rfl (fun K hK => ?_) AllReadyH.nil)
                refine step_append_at rfl (.tmp 72) (.tmp 78) 22 rfl Wb.heap.size 24 i0 _ 4 56 Tryd.underlying22 hi hz0 hz1 hz2 rfl (by decide) (.slice ra4 t.len rc4) t.len (rowsTo t.kid x t.len) (by simp [Act.eval]) HST4.out.own ⟨v1.heap.size, 0, none⟩ 1 1 (rowsTo (fun _ => (t.kid k)) (fun _ => (x k)) 1) (by simp [Act.eval]) (rowsTo_len _ _ _) (src_cells (u := (t.kid k)) (x := (x k)) (HST4.out.blk (v1.heap.size, (.cells #[.int .u8 (t.kid k).kind, .int .i64 (t.kid k).num, .string (t.kid k).name, .slice (x k).1 (t.kid k).len (x k).2] 24)) (by simp)).1) rowsTo_one (by unfold maxLen; omega) (by omega) HST4.out.ps.bel.size ?_
                intro r5 v5 hown hgrow hplace
                obtain ⟨ra5, rc5, rfl⟩ := own_slice hown
                have HST5 := Lib.hid (HST4.out.grow hown hgrow hplace)
                refine hK.out _ _ HST5.out.ps (fun hHeld => ?_)
                clear hK K hown hgrow hplace
                rename_i hOld
                clear hOld
                (try simp only [Act.put, List.getElem_toArray, List.getElem_cons_zero, List.getElem_cons_succ, List.setIfInBounds_toArray, List.set_cons_zero, List.set_cons_succ])
                refine wpAnyH_take (i := 11) (v := .agg #[.int .u8 47, .int .i64 0, .string ⟨#[]⟩, (.slice ra5 (t.len + 1) rc5)]) rfl (by kernel_rfl) (by kernel_rfl) (by kernel_rfl) (fun _ _ _ h => h) (Or.inl ⟨by rfl, ?_⟩) (by assumption) ?_
                · intro w' hSw; go_simp
                (try simp only [Act.put, List.getElem_toArray, List.getElem_cons_zero, List.getElem_cons_succ, List.setIfInBounds_toArray, List.set_cons_zero, List.set_cons_succ])
                obtain ⟨⟨z0, z1, z2, z3⟩, y0, y1, y2, y3⟩ := blk4 (HST5.out.blk (v2.heap.size, (.cells #[.int .u8 0, .int .i64 0, .string ⟨#[]⟩, .slice none 0 0] 24)) (by simp)).1
                refine wpAnyH_ready (rs := [13]) (by kernel_rfl) (by simp) (AllReadyH.cons rfl (fun K hK => ?_) AllReadyH.nil)
                go_simp
                have HE := Lib.hid (HST5.out.put (Y := v2.heap.size) (by simp))
                refine hK.out _ _ HE.out.ps (fun hHeld => ?_)
                refine wpAnyH_done (by kernel_rfl) ?_ _
                exact ⟨v0.heap.size, v1.heap.size, (.slice ra4 t.len rc4), (.slice ra5 (t.len + 1) rc5), v2.heap.size, by simp only [List.setIfInBounds_toArray, List.set_cons_zero, List.set_cons_succ], HE.out⟩
            · skip
              go_simp
              have HST2 := Lib.hid (HST1.out.alloc (.cells #[.int .u8 0, .int .i64 0, .string ⟨#[]⟩, .slice none 0 0] 24))
              refine hK.out _ _ HST2.out.ps (fun hHeld => ?_)
              clear hK K
              rename_i hOld
              clear hOld
              (try simp only [Act.put, List.getElem_toArray, List.getElem_cons_zero, List.getElem_cons_succ, List.setIfInBounds_toArray, List.set_cons_zero, List.set_cons_succ])
              generalize hw : World.alloc v1 _ = v2 at hHeld HST2 ⊢
              clear hw
              refine wpAnyH_ready (rs := [3, 9]) (by kernel_rfl) (by simp) (AllReadyH.cons rfl (fun K hK => ?_) (AllReadyH.cons rfl (fun K hK => ?_) AllReadyH.nil))
              · skip
                refine step_append_at rfl (.tmp 69) (.tmp 71) 22 rfl Wb.heap.size 24 i0 _ 4 56 Tryd.underlying22 hi hz0 hz1 hz2 rfl (by decide) (.slice (some ⟨v0.heap.size, 0, none⟩) 0 0) 0 [] (by simp [Act.eval]) HST2.out.own ⟨kb, ko, none⟩ t.len c (rowsTo t.kid x t.len) (by simp [Act.eval]) (rowsTo_len _ _ _) (KC2.out _ HST2.out.ps) rowsTo_one (by unfold maxLen; omega) (by omega) HST2.out.ps.bel.size ?_
                intro r3 v3 hown hgrow hplace
                rw [Nat.zero_add, List.nil_append] at hown
                obtain ⟨ra3, rc3, rfl⟩ := own_slice hown
                have HST3 := Lib.hid (HST2.out.grow hown hgrow hplace)
                refine hK.out _ _ HST3.out.ps (fun hHeld => ?_)
                clear hK K hown hgrow hplace
                rename_i hOld
                clear hOld
                (try simp only [Act.put, List.getElem_toArray, List.getElem_cons_zero, List.getElem_cons_succ, List.setIfInBounds_toArray, List.set_cons_zero, List.set_cons_succ])
                refine wpAnyH_ready (rs := [9]) (by kernel_rfl) (by simp) (AllReadyH.cons rfl (fun K hK => ?_) AllReadyH.nil)
                go_simp
                have HST4 := Lib.hid (HST3.out.alloc (.cells #[.int .u8 (t.kid k).kind, .int .i64 (t.kid k).num, .string (t.kid k).name, .slice (x k).1 (t.kid k).len (x k).2] 24))
                refine hK.out _ _ HST4.out.ps (fun hHeld => ?_)
                clear hK K
                rename_i hOld
                clear hOld
                (try simp only [Act.put, List.getElem_toArray, List.getElem_cons_zero, List.getElem_cons_succ, List.setIfInBounds_toArray, List.set_cons_zero, List.set_cons_succ])
                generalize hw : World.alloc v3 _ = v4 at hHeld HST4 ⊢
                clear hw
                refine wpAnyH_ready (rs := [10]) (by kernel_rfl) (by simp) (AllReadyH.cons rfl (fun K hK => ?_) AllReadyH.nil)
                refine step_append_at rfl (.tmp 72) (.tmp 78) 22 rfl Wb.heap.size 24 i0 _ 4 56 Tryd.underlying22 hi hz0 hz1 hz2 rfl (by decide) (.slice ra3 t.len rc3) t.len (rowsTo t.kid x t.len) (by simp [Act.eval]) HST4.out.own ⟨v3.heap.size, 0, none⟩ 1 1 (rowsTo (fun _ => (t.kid k)) (fun _ => (x k)) 1) (by simp [Act.eval]) (rowsTo_len _ _ _) (src_cells (u := (t.kid k)) (x := (x k)) (HST4.out.blk (v3.heap.size, (.cells #[.int .u8 (t.kid k).kind, .int .i64 (t.kid k).num, .string (t.kid k).name, .slice (x k).1 (t.kid k).len (x k).2] 24)) (by simp)).1) rowsTo_one (by unfold maxLen; omega) (by omega) HST4.out.ps.bel.size ?_
                intro r5 v5 hown hgrow hplace
                obtain ⟨ra5, rc5, rfl⟩ := own_slice hown
                have HST5 := Lib.hid (HST4.out.grow hown hgrow hplace)
                refine hK.out _ _ HST5.out.ps (fun hHeld => ?_)
                clear hK K hown hgrow hplace
                rename_i hOld
                clear hOld
                (try simp only [Act.put, List.getElem_toArray, List.getElem_cons_zero, List.getElem_cons_succ, List.setIfInBounds_toArray, List.set_cons_zero, List.set_cons_succ])
                refine wpAnyH_take (i := 11) (v := .agg #[.int .u8 47, .int .i64 0, .string ⟨#[]⟩, (.slice ra5 (t.len + 1) rc5)]) rfl (by kernel_rfl) (by kernel_rfl) (by kernel_rfl) (fun _ _ _ h => h) (Or.inl ⟨by rfl, ?_⟩) (by assumption) ?_
                · intro w' hSw; go_simp
                (try simp only [Act.put, List.getElem_toArray, List.getElem_cons_zero, List.getElem_cons_succ, List.setIfInBounds_toArray, List.set_cons_zero, List.set_cons_succ])
                obtain ⟨⟨z0, z1, z2, z3⟩, y0, y1, y2, y3⟩ := blk4 (HST5.out.blk (v1.heap.size, (.cells #[.int .u8 0, .int .i64 0, .string ⟨#[]⟩, .slice none 0 0] 24)) (by simp)).1
                refine wpAnyH_ready (rs := [13]) (by kernel_rfl) (by simp) (AllReadyH.cons rfl (fun K hK => ?_) AllReadyH.nil)
                go_simp
                have HE := Lib.hid (HST5.out.put (Y := v1.heap.size) (by simp))
                refine hK.out _ _ HE.out.ps (fun hHeld => ?_)
                refine wpAnyH_done (by kernel_rfl) ?_ _
                exact ⟨v0.heap.size, v3.heap.size, (.slice ra3 t.len rc3), (.slice ra5 (t.len + 1) rc5), v1.heap.size, by simp only [List.setIfInBounds_toArray, List.set_cons_zero, List.set_cons_succ], HE.out⟩
              · skip
                go_simp
                have HST3 := Lib.hid (HST2.out.alloc (.cells #[.int .u8 (t.kid k).kind, .int .i64 (t.kid k).num, .string (t.kid k).name, .slice (x k).1 (t.kid k).len (x k).2] 24))
                refine hK.out _ _ HST3.out.ps (fun hHeld => ?_)
                clear hK K
                rename_i hOld
                clear hOld
                (try simp only [Act.put, List.getElem_toArray, List.getElem_cons_zero, List.getElem_cons_succ, List.setIfInBounds_toArray, List.set_cons_zero, List.set_cons_succ])
                generalize hw : World.alloc v2 _ = v3 at hHeld HST3 ⊢
                clear hw
                refine wpAnyH_ready (rs := [3]) (by kernel_rfl) (by simp) (AllReadyH.cons rfl (fun K hK => ?_) AllReadyH.nil)
                refine step_append_at rfl (.tmp 69) (.tmp 71) 22 rfl Wb.heap.size 24 i0 _ 4 56 Tryd.underlying22 hi hz0 hz1 hz2 rfl (by decide) (.slice (some ⟨v0.heap.size, 0, none⟩) 0 0) 0 [] (by simp [Act.eval]) HST3.out.own ⟨kb, ko, none⟩ t.len c (rowsTo t.kid x t.len) (by simp [Act.eval]) (rowsTo_len _ _ _) (KC2.out _ HST3.out.ps) rowsTo_one (by unfold maxLen; omega) (by omega) HST3.out.ps.bel.size ?_
                intro r4 v4 hown hgrow hplace
                rw [Nat.zero_add, List.nil_append] at hown
                obtain ⟨ra4, rc4, rfl⟩ := own_slice hown
                have HST4 := Lib.hid (HST3.out.grow hown hgrow hplace)
                refine hK.out _ _ HST4.out.ps (fun hHeld => ?_)
                clear hK K hown hgrow hplace
                rename_i hOld
                clear hOld
                (try simp only [Act.put, List.getElem_toArray, List.getElem_cons_zero, List.getElem_cons_succ, List.setIfInBounds_toArray, List.set_cons_zero, List.set_cons_succ])
                refine wpAnyH_ready (rs := [10]) (by kernel_rfl) (by simp) (AllReadyH.cons rfl (fun K hK => ?_) AllReadyH.nil)
                refine step_append_at rfl (.tmp 72) (.tmp 78) 22 rfl Wb.heap.size 24 i0 _ 4 56 Tryd.underlying22 hi hz0 hz1 hz2 rfl (by decide) (.slice ra4 t.len rc4) t.len (rowsTo t.kid x t.len) (by simp [Act.eval]) HST4.out.own ⟨v2.heap.size, 0, none⟩ 1 1 (rowsTo (fun _ => (t.kid k)) (fun _ => (x k)) 1) (by simp [Act.eval]) (rowsTo_len _ _ _) (src_cells (u := (t.kid k)) (x := (x k)) (HST4.out.blk (v2.heap.size, (.cells #[.int .u8 (t.kid k).kind, .int .i64 (t.kid k).num, .string (t.kid k).name, .slice (x k).1 (t.kid k).len (x k).2] 24)) (by simp)).1) rowsTo_one (by unfold maxLen; omega) (by omega) HST4.out.ps.bel.size ?_
                intro r5 v5 hown hgrow hplace
                obtain ⟨ra5, rc5, rfl⟩ := own_slice hown
                have HST5 := Lib.hid (HST4.out.grow hown hgrow hplace)
                refine hK.out _ _ HST5.out.ps (fun hHeld => ?_)
                clear hK K hown hgrow hplace
                rename_i hOld
                clear hOld
                (try simp only [Act.put, List.getElem_toArray, List.getElem_cons_zero, List.getElem_cons_succ, List.setIfInBounds_toArray, List.set_cons_zero, List.set_cons_succ])
                refine wpAnyH_take (i := 11) (v := .agg #[.int .u8 47, .int .i64 0, .string ⟨#[]⟩, (.slice ra5 (t.len + 1) rc5)]) rfl (by kernel_rfl) (by kernel_rfl) (by kernel_rfl) (fun _ _ _ h => h) (Or.inl ⟨by rfl, ?_⟩) (by assumption) ?_
                · intro w' hSw; go_simp
                (try simp only [Act.put, List.getElem_toArray, List.getElem_cons_zero, List.getElem_cons_succ, List.setIfInBounds_toArray, List.set_cons_zero, List.set_cons_succ])
                obtain ⟨⟨z0, z1, z2, z3⟩, y0, y1, y2, y3⟩ := blk4 (HST5.out.blk (v1.heap.size, (.cells #[.int .u8 0, .int .i64 0, .string ⟨#[]⟩, .slice none 0 0] 24)) (by simp)).1
                refine wpAnyH_ready (rs := [13]) (by kernel_rfl) (by simp) (AllReadyH.cons rfl (fun K hK => ?_) AllReadyH.nil)
                go_simp
                have HE := Lib.hid (HST5.out.put (Y := v1.heap.size) (by simp))
                refine hK.out _ _ HE.out.ps (fun hHeld => ?_)
                refine wpAnyH_done (by kernel_rfl) ?_ _
                exact ⟨v0.heap.size, v2.heap.size, (.slice ra4 t.len rc4), (.slice ra5 (t.len + 1) rc5), v1.heap.size, by simp only [List.setIfInBounds_toArray, List.set_cons_zero, List.set_cons_succ], HE.out⟩
          · skip
            go_simp
            have HST1 := Lib.hid (HST0.out.alloc (.cells #[.int .u8 (t.kid k).kind, .int .i64 (t.kid k).num, .string (t.kid k).name, .slice (x k).1 (t.kid k).len (x k).2] 24))
            refine hK.out _ _ HST1.out.ps (fun hHeld => ?_)
            clear hK K
            rename_i hOld
            clear hOld
            (try simp only [Act.put, List.getElem_toArray, List.getElem_cons_zero, List.getElem_cons_succ, List.setIfInBounds_toArray, List.set_cons_zero, List.set_cons_succ])
            generalize hw : World.alloc v0 _ = v1 at hHeld HST1 ⊢
            clear hw
            refine wpAnyH_ready (rs := [0, 12]) (by kernel_rfl) (by simp) (AllReadyH.cons rfl (fun K hK => ?_) (AllReadyH.cons rfl (fun K hK => ?_) AllReadyH.nil))
            · skip
              go_simp
              have HST2 := Lib.hid HST1.out.start
              refine hK.out _ _ HST2.out.ps (fun hHeld => ?_)
              clear hK K
              rename_i hOld
              clear hOld
              (try simp only [Act.put, List.getElem_toArray, List.getElem_cons_zero, List.getElem_cons_succ, List.setIfInBounds_toArray, List.set_cons_zero, List.set_cons_succ])
              generalize hw : World.alloc v1 _ = v2 at hHeld HST2 ⊢
              clear hw
              refine wpAnyH_ready (rs := [3, 12]) (by kernel_rfl) (by simp) (AllReadyH.cons rfl (fun K hK => ?_) (AllReadyH.cons rfl (fun K hK => ?_) AllReadyH.nil))
              · skip
                refine step_append_at rfl (.tmp 69) (.tmp 71) 22 rfl Wb.heap.size 24 i0 _ 4 56 Tryd.underlying22 hi hz0 hz1 hz2 rfl (by decide) (.slice (some ⟨v1.heap.size, 0, none⟩) 0 0) 0 [] (by simp [Act.eval]) HST2.out.own ⟨kb, ko, none⟩ t.len c (rowsTo t.kid x t.len) (by simp [Act.eval]) (rowsTo_len _ _ _) (KC2.out _ HST2.out.ps) rowsTo_one (by unfold maxLen; omega) (by omega) HST2.out.ps.bel.size ?_
                intro r3 v3 hown hgrow hplace
                rw [Nat.zero_add, List.nil_append] at hown
                obtain ⟨ra3, rc3, rfl⟩ := own_slice hown
                have HST3 := Lib.hid (HST2.out.grow hown hgrow hplace)
                refine hK.out _ _ HST3.out.ps (fun hHeld => ?_)
                clear hK K hown hgrow hplace
                rename_i hOld
                clear hOld
                (try simp only [Act.put, List.getElem_toArray, List.getElem_cons_zero, List.getElem_cons_succ, List.setIfInBounds_toArray, List.set_cons_zero, List.set_cons_succ])
                refine wpAnyH_ready (rs := [10, 12]) (by kernel_rfl) (by simp) (AllReadyH.cons rfl (fun K hK => ?_) (AllReadyH.cons rfl (fun K hK => ?_) AllReadyH.nil))
                · skip
                  refine step_append_at rfl (.tmp 72) (.tmp 78) 22 rfl Wb.heap.size 24 i0 _ 4 56 Tryd.underlying22 hi hz0 hz1 hz2 rfl (by decide) (.slice ra3 t.len rc3) t.len (rowsTo t.kid x t.len) (by simp [Act.eval]) HST3.out.own ⟨v0.heap.size, 0, none⟩ 1 1 (rowsTo (fun _ => (t.kid k)) (fun _ => (x k)) 1) (by simp [Act.eval]) (rowsTo_len _ _ _) (src_cells (u := (t.kid k)) (x := (x k)) (HST3.out.blk (v0.heap.size, (.cells #[.int .u8 (t.kid k).kind, .int .i64 (t.kid k).num, .string (t.kid k).name, .slice (x k).1 (t.kid k).len (x k).2] 24)) (by simp)).1) rowsTo_one (by unfold maxLen; omega) (by omega) HST3.out.ps.bel.size ?_
                  intro r4 v4 hown hgrow hplace
                  obtain ⟨ra4, rc4, rfl⟩ := own_slice hown
                  have HST4 := Lib.hid (HST3.out.grow hown hgrow hplace)
                  refine hK.out _ _ HST4.out.ps (fun hHeld => ?_)
                  clear hK K hown hgrow hplace
                  rename_i hOld
                  clear hOld
                  (try simp only [Act.put, List.getElem_toArray, List.getElem_cons_zero, List.getElem_cons_succ, List.setIfInBounds_toArray, List.set_cons_zero, List.set_cons_succ])
                  refine wpAnyH_take (i := 11) (v := .agg #[.int .u8 47, .int .i64 0, .string ⟨#[]⟩, (.slice ra4 (t.len + 1) rc4)]) rfl (by kernel_rfl) (by kernel_rfl) (by kernel_rfl) (fun _ _ _ h => h) (Or.inl ⟨by rfl, ?_⟩) (by assumption) ?_
                  · intro w' hSw; go_simp
                  (try simp only [Act.put, List.getElem_toArray, List.getElem_cons_zero, List.getElem_cons_succ, List.setIfInBounds_toArray, List.set_cons_zero, List.set_cons_succ])
                  refine wpAnyH_ready (rs := [12]) (by kernel_rfl) (by simp) (AllReadyH.cons rfl (fun K hK => ?_) AllReadyH.nil)
                  go_simp
                  have HST5 := Lib.hid (HST4.out.alloc (.cells #[.int .u8 0, .int .i64 0, .string ⟨#[]⟩, .slice none 0 0] 24))
                  refine hK.out _ _ HST5.out.ps (fun hHeld => ?_)
                  clear hK K
                  rename_i hOld
                  clear hOld
                  (try simp only [Act.put, List.getElem_toArray, List.getElem_cons_zero, List.getElem_cons_succ, List.setIfInBounds_toArray, List.set_cons_zero, List.set_cons_succ])
                  generalize hw : World.alloc v4 _ = v5 at hHeld HST5 ⊢
                  clear hw
                  obtain ⟨⟨z0, z1, z2, z3⟩, y0, y1, y2, y3⟩ := blk4 (HST5.out.blk (v4.heap.size, (.cells #[.int .u8 0, .int .i64 0, .string ⟨#[]⟩, .slice none 0 0] 24)) (by simp)).1
                  refine wpAnyH_ready (rs := [13]) (by kernel_rfl) (by simp) (AllReadyH.cons rfl (fun K hK => ?_) AllReadyH.nil)
                  go_simp
                  have HE := Lib.hid (HST5.out.put (Y := v4.heap.size) (by simp))
                  refine hK.out _ _ HE.out.ps (fun hHeld => ?_)
                  refine wpAnyH_done (by kernel_rfl) ?_ _
                  exact ⟨v1.heap.size, v0.heap.size, (.slice ra3 t.len rc3), (.slice ra4 (t.len + 1) rc4), v4.heap.size, by simp only [List.setIfInBounds_toArray, List.set_cons_zero, List.set_cons_succ], HE.out⟩
                · skip
                  go_simp
                  have HST4 := Lib.hid (HST3.out.alloc (.cells #[.int .u8 0, .int .i64 0, .string ⟨#[]⟩, .slice none 0 0] 24))
                  refine hK.out _ _ HST4.out.ps (fun hHeld => ?_)
                  clear hK K
                  rename_i hOld
                  clear hOld
                  (try simp only [Act.put, List.getElem_toArray, List.getElem_cons_zero, List.getElem_cons_succ, List.setIfInBounds_toArray, List.set_cons_zero, List.set_cons_succ])
                  generalize hw : World.alloc v3 _ = v4 at hHeld HST4 ⊢
                  clear hw
                  refine wpAnyH_ready (rs := [10]) (by kernel_rfl) (by simp) (AllReadyH.cons rfl (fun K hK => ?_) AllReadyH.nil)
                  refine step_append_at rfl (.tmp 72) (.tmp 78) 22 rfl Wb.heap.size 24 i0 _ 4 56 Tryd.underlying22 hi hz0 hz1 hz2 rfl (by decide) (.slice ra3 t.len rc3) t.len (rowsTo t.kid x t.len) (by simp [Act.eval]) HST4.out.own ⟨v0.heap.size, 0, none⟩ 1 1 (rowsTo (fun _ => (t.kid k)) (fun _ => (x k)) 1) (by simp [Act.eval]) (rowsTo_len _ _ _) (src_cells (u := (t.kid k)) (x := (x k)) (HST4.out.blk (v0.heap.size, (.cells #[.int .u8 (t.kid k).kind, .int .i64 (t.kid k).num, .string (t.kid k).name, .slice (x k).1 (t.kid k).len (x k).2] 24)) (by simp)).1) rowsTo_one (by unfold maxLen; omega) (by omega) HST4.out.ps.bel.size ?_
                  intro r5 v5 hown hgrow hplace
                  obtain ⟨ra5, rc5, rfl⟩ := own_slice hown
                  have HST5 := Lib.hid (HST4.out.grow hown hgrow hplace)
                  refine hK.out _ _ HST5.out.ps (fun hHeld => ?_)
                  clear hK K hown hgrow hplace
                  rename_i hOld
                  clear hOld
                  (try simp only [Act.put, List.getElem_toArray, List.getElem_cons_zero, List.getElem_cons_succ, List.setIfInBounds_toArray, List.set_cons_zero, List.set_cons_succ])
                  refine wpAnyH_take (i := 11) (v := .agg #[.int .u8 47, .int .i64 0, .string ⟨#[]⟩, (.slice ra5 (t.len + 1) rc5)]) rfl (by kernel_rfl) (by kernel_rfl) (by kernel_rfl) (fun _ _ _ h => h) (Or.inl ⟨by rfl, ?_⟩) (by assumption) ?_
                  · intro w' hSw; go_simp
                  (try simp only [Act.put, List.getElem_toArray, List.getElem_cons_zero, List.getElem_cons_succ, List.setIfInBounds_toArray, List.set_cons_zero, List.set_cons_succ])
                  obtain ⟨⟨z0, z1, z2, z3⟩, y0, y1, y2, y3⟩ := blk4 (HST5.out.blk (v3.heap.size, (.cells #[.int .u8 0, .int .i64 0, .string ⟨#[]⟩, .slice none 0 0] 24)) (by simp)).1
                  refine wpAnyH_ready (rs := [13]) (by kernel_rfl) (by simp) (AllReadyH.cons rfl (fun K hK => ?_) AllReadyH.nil)
                  go_simp
                  have HE := Lib.hid (HST5.out.put (Y := v3.heap.size) (by simp))
                  refine hK.out _ _ HE.out.ps (fun hHeld => ?_)
                  refine wpAnyH_done (by kernel_rfl) ?_ _
                  exact ⟨v1.heap.size, v0.heap.size, (.slice ra3 t.len rc3), (.slice ra5 (t.len + 1) rc5), v3.heap.size, by simp only [List.setIfInBounds_toArray, List.set_cons_zero, List.set_cons_succ], HE.out⟩
              · skip
                go_simp
                have HST3 := Lib.hid (HST2.out.alloc (.cells #[.int .u8 0, .int .i64 0, .string ⟨#[]⟩, .slice none 0 0] 24))
                refine hK.out _ _ HST3.out.ps (fun hHeld => ?_)
                clear hK K
                rename_i hOld
                clear hOld
                (try simp only [Act.put, List.getElem_toArray, List.getElem_cons_zero, List.getElem_cons_succ, List.setIfInBounds_toArray, List.set_cons_zero, List.set_cons_succ])
                generalize hw : World.alloc v2 _ = v3 at hHeld HST3 ⊢
                clear hw
                refine wpAnyH_ready (rs := [3]) (by kernel_rfl) (by simp) (AllReadyH.cons rfl (fun K hK => ?_) AllReadyH.nil)
                refine step_append_at rfl (.tmp 69) (.tmp 71) 22 rfl Wb.heap.size 24 i0 _ 4 56 Tryd.underlying22 hi hz0 hz1 hz2 rfl (by decide) (.slice (some ⟨v1.heap.size, 0, none⟩) 0 0) 0 [] (by simp [Act.eval]) HST3.out.own ⟨kb, ko, none⟩ t.len c (rowsTo t.kid x t.len) (by simp [Act.eval]) (rowsTo_len _ _ _) (KC2.out _ HST3.out.ps) rowsTo_one (by unfold maxLen; omega) (by omega) HST3.out.ps.bel.size ?_
                intro r4 v4 hown hgrow hplace
                rw [Nat.zero_add, List.nil_append] at hown
                obtain ⟨ra4, rc4, rfl⟩ := own_slice hown
                have HST4 := Lib.hid (HST3.out.grow hown hgrow hplace)
                refine hK.out _ _ HST4.out.ps (fun hHeld => ?_)
                clear hK K hown hgrow hplace
                rename_i hOld
                clear hOld
                (try simp only [Act.put, List.getElem_toArray, List.getElem_cons_zero, List.getElem_cons_succ, List.setIfInBounds_toArray, List.set_cons_zero, List.set_cons_succ])
                refine wpAnyH_ready (rs := [10]) (by kernel_rfl) (by simp) (AllReadyH.cons rfl (fun K hK => ?_) AllReadyH.nil)
                refine step_append_at rfl (.tmp 72) (.tmp 78) 22 rfl Wb.heap.size 24 i0 _ 4 56 Tryd.underlying22 hi hz0 hz1 hz2 rfl (by decide) (.slice ra4 t.len rc4) t.len (rowsTo t.kid x t.len) (by simp [Act.eval]) HST4.out.own ⟨v0.heap.size, 0, none⟩ 1 1 (rowsTo (fun _ => (t.kid k)) (fun _ => (x k)) 1) (by simp [Act.eval]) (rowsTo_len _ _ _) (src_cells (u := (t.kid k)) (x := (x k)) (HST4.out.blk (v0.heap.size, (.cells #[.int .u8 (t.kid k).kind, .int .i64 (t.kid k).num, .string (t.kid k).name, .slice (x k).1 (t.kid k).len (x k).2] 24)) (by simp)).1) rowsTo_one (by unfold maxLen; omega) (by omega) HST4.out.ps.bel.size ?_
                intro r5 v5 hown hgrow hplace
                obtain ⟨ra5, rc5, rfl⟩ := own_slice hown
                have HST5 := Lib.hid (HST4.out.grow hown hgrow hplace)
                refine hK.out _ _ HST5.out.ps (fun hHeld => ?_)
                clear hK K hown hgrow hplace
                rename_i hOld
                clear hOld
                (try simp only [Act.put, List.getElem_toArray, List.getElem_cons_zero, List.getElem_cons_succ, List.setIfInBounds_toArray, List.set_cons_zero, List.set_cons_succ])
                refine wpAnyH_take (i := 11) (v := .agg #[.int .u8 47, .int .i64 0, .string ⟨#[]⟩, (.slice ra5 (t.len + 1) rc5)]) rfl (by kernel_rfl) (by kernel_rfl) (by kernel_rfl) (fun _ _ _ h => h) (Or.inl ⟨by rfl, ?_⟩) (by assumption) ?_
                · intro w' hSw; go_simp
                (try simp only [Act.put, List.getElem_toArray, List.getElem_cons_zero, List.getElem_cons_succ, List.setIfInBounds_toArray, List.set_cons_zero, List.set_cons_succ])
                obtain ⟨⟨z0, z1, z2, z3⟩, y0, y1, y2, y3⟩ := blk4 (HST5.out.blk (v2.heap.size, (.cells #[.int .u8 0, .int .i64 0, .string ⟨#[]⟩, .slice none 0 0] 24)) (by simp)).1
                refine wpAnyH_ready (rs := [13]) (by kernel_rfl) (by simp) (AllReadyH.cons rfl (fun K hK => ?_) AllReadyH.nil)
                go_simp
                have HE := Lib.hid (HST5.out.put (Y := v2.heap.size) (by simp))
                refine hK.out _ _ HE.out.ps (fun hHeld => ?_)
                refine wpAnyH_done (by kernel_rfl) ?_ _
                exact ⟨v1.heap.size, v0.heap.size, (.slice ra4 t.len rc4), (.slice ra5 (t.len + 1) rc5), v2.heap.size, by simp only [List.setIfInBounds_toArray, List.set_cons_zero, List.set_cons_succ], HE.out⟩
            · skip
              go_simp
              have HST2 := Lib.hid (HST1.out.alloc (.cells #[.int .u8 0, .int .i64 0, .string ⟨#[]⟩, .slice none 0 0] 24))
              refine hK.out _ _ HST2.out.ps (fun hHeld => ?_)
              clear hK K
              rename_i hOld
              clear hOld
              (try simp only [Act.put, List.getElem_toArray, List.getElem_cons_zero, List.getElem_cons_succ, List.setIfInBounds_toArray, List.set_cons_zero, List.set_cons_succ])
              generalize hw : World.alloc v1 _ = v2 at hHeld HST2 ⊢
              clear hw
              refine wpAnyH_ready (rs := [0]) (by kernel_rfl) (by simp) (AllReadyH.cons rfl (fun K hK => ?_) AllReadyH.nil)
              go_simp
              have HST3 := Lib.hid HST2.out.start
              refine hK.out _ _ HST3.out.ps (fun hHeld => ?_)
              clear hK K
              rename_i hOld
              clear hOld
              (try simp only [Act.put, List.getElem_toArray, List.getElem_cons_zero, List.getElem_cons_succ, List.setIfInBounds_toArray, List.set_cons_zero, List.set_cons_succ])
              generalize hw : World.alloc v2 _ = v3 at hHeld HST3 ⊢
              clear hw
              refine wpAnyH_ready (rs := [3]) (by kernel_rfl) (by simp) (AllReadyH.cons rfl (fun K hK => ?_) AllReadyH.nil)
              refine step_append_at rfl (.tmp 69) (.tmp 71) 22 rfl Wb.heap.size 24 i0 _ 4 56 Tryd.underlying22 hi hz0 hz1 hz2 rfl (by decide) (.slice (some ⟨v2.heap.size, 0, none⟩) 0 0) 0 [] (by simp [Act.eval]) HST3.out.own ⟨kb, ko, none⟩ t.len c (rowsTo t.kid x t.len) (by simp [Act.eval]) (rowsTo_len _ _ _) (KC2.out _ HST3.out.ps) rowsTo_one (by unfold maxLen; omega) (by omega) HST3.out.ps.bel.size ?_
              intro r4 v4 hown hgrow hplace
              rw [Nat.zero_add, List.nil_append] at hown
              obtain ⟨ra4, rc4, rfl⟩ := own_slice hown
              have HST4 := Lib.hid (HST3.out.grow hown hgrow hplace)
              refine hK.out _ _ HST4.out.ps (fun hHeld => ?_)
              clear hK K hown hgrow hplace
              rename_i hOld
              clear hOld
              (try simp only [Act.put, List.getElem_toArray, List.getElem_cons_zero, List.getElem_cons_succ, List.setIfInBounds_toArray, List.set_cons_zero, List.set_cons_succ])
              refine wpAnyH_ready (rs := [10]) (by kernel_rfl) (by simp) (AllReadyH.cons rfl (fun K hK => ?_) AllReadyH.nil)
              refine step_append_at rfl (.tmp 72) (.tmp 78) 22 rfl Wb.heap.size 24 i0 _ 4 56 Tryd.underlying22 hi hz0 hz1 hz2 rfl (by decide) (.slice ra4 t.len rc4) t.len (rowsTo t.kid x t.len) (by simp [Act.eval]) HST4.out.own ⟨v0.heap.size, 0, none⟩ 1 1 (rowsTo (fun _ => (t.kid k)) (fun _ => (x k)) 1) (by simp [Act.eval]) (rowsTo_len _ _ _) (src_cells (u := (t.kid k)) (x := (x k)) (HST4.out.blk (v0.heap.size, (.cells #[.int .u8 (t.kid k).kind, .int .i64 (t.kid k).num, .string (t.kid k).name, .slice (x k).1 (t.kid k).len (x k).2] 24)) (by simp)).1) rowsTo_one (by unfold maxLen; omega) (by omega) HST4.out.ps.bel.size ?_
              intro r5 v5 hown hgrow hplace
              obtain ⟨ra5, rc5, rfl⟩ := own_slice hown
              have HST5 := Lib.hid (HST4.out.grow hown hgrow hplace)
              refine hK.out _ _ HST5.out.ps (fun hHeld => ?_)
              clear hK K hown hgrow hplace
              rename_i hOld
              clear hOld
              (try simp only [Act.put, List.getElem_toArray, List.getElem_cons_zero, List.getElem_cons_succ, List.setIfInBounds_toArray, List.set_cons_zero, List.set_cons_succ])
              refine wpAnyH_take (i := 11) (v := .agg #[.int .u8 47, .int .i64 0, .string ⟨#[]⟩, (.slice ra5 (t.len + 1) rc5)]) rfl (by kernel_rfl) (by kernel_rfl) (by kernel_rfl) (fun _ _ _ h => h) (Or.inl ⟨by rfl, ?_⟩) (by assumption) ?_
              · intro w' hSw; go_simp
              (try simp only [Act.put, List.getElem_toArray, List.getElem_cons_zero, List.getElem_cons_succ, List.setIfInBounds_toArray, List.set_cons_zero, List.set_cons_succ])
              obtain ⟨⟨z0, z1, z2, z3⟩, y0, y1, y2, y3⟩ := blk4 (HST5.out.blk (v1.heap.size, (.cells #[.int .u8 0, .int .i64 0, .string ⟨#[]⟩, .slice none 0 0] 24)) (by simp)).1
              refine wpAnyH_ready (rs := [13]) (by kernel_rfl) (by simp) (AllReadyH.cons rfl (fun K hK => ?_) AllReadyH.nil)
              go_simp
              have HE := Lib.hid (HST5.out.put (Y := v1.heap.size) (by simp))
              refine hK.out _ _ HE.out.ps (fun hHeld => ?_)
              refine wpAnyH_done (by kernel_rfl) ?_ _
              exact ⟨v2.heap.size, v0.heap.size, (.slice ra4 t.len rc4), (.slice ra5 (t.len + 1) rc5), v1.heap.size, by simp only [List.setIfInBounds_toArray, List.set_cons_zero, List.set_cons_succ], HE.out⟩
          · skip
            go_simp
            have HST1 := Lib.hid (HST0.out.alloc (.cells #[.int .u8 0, .int .i64 0, .string ⟨#[]⟩, .slice none 0 0] 24))
            refine hK.out _ _ HST1.out.ps (fun hHeld => ?_)
            clear hK K
            rename_i hOld
            clear hOld
            (try simp only [Act.put, List.getElem_toArray, List.getElem_cons_zero, List.getElem_cons_succ, List.setIfInBounds_toArray, List.set_cons_zero, List.set_cons_succ])
            generalize hw : World.alloc v0 _ = v1 at hHeld HST1 ⊢
            clear hw
            refine wpAnyH_ready (rs := [0, 9]) (by kernel_rfl) (by simp) (AllReadyH.cons rfl (fun K hK => ?_) (AllReadyH.cons rfl (fun K hK => ?_) AllReadyH.nil))
            · skip
              go_simp
              have HST2 := Lib.hid HST1.out.start
              refine hK.out _ _ HST2.out.ps (fun hHeld => ?_)
              clear hK K
              rename_i hOld
              clear hOld
              (try simp only [Act.put, List.getElem_toArray, List.getElem_cons_zero, List.getElem_cons_succ, List.setIfInBounds_toArray, List.set_cons_zero, List.set_cons_succ])
              generalize hw : World.alloc v1 _ = v2 at hHeld HST2 ⊢
              clear hw
              refine wpAnyH_ready (rs := [3, 9]) (by kernel_rfl) (by simp) (AllReadyH.cons rfl (fun K hK => ?_) (AllReadyH.cons rfl (fun K hK => ?_) AllReadyH.nil))
              · skip
                refine step_append_at rfl (.tmp 69) (.tmp 71) 22 rfl Wb.heap.size 24 i0 _ 4 56 Tryd.underlying22 hi hz0 hz1 hz2 rfl (by decide) (.slice (some ⟨v1.heap.size, 0, none⟩) 0 0) 0 [] (by simp [Act.eval]) HST2.out.own ⟨kb, ko, none⟩ t.len c (rowsTo t.kid x t.len) (by simp [Act.eval]) (rowsTo_len _ _ _) (KC2.out _ HST2.out.ps) rowsTo_one (by unfold maxLen; omega) (by omega) HST2.out.ps.bel.size ?_
                intro r3 v3 hown hgrow hplace
                rw [Nat.zero_add, List.nil_append] at hown
                obtain ⟨ra3, rc3, rfl⟩ := own_slice hown
                have HST3 := Lib.hid (HST2.out.grow hown hgrow hplace)
                refine hK.out _ _ HST3.out.ps (fun hHeld => ?_)
                clear hK K hown hgrow hplace
                rename_i hOld
                clear hOld
                (try simp only [Act.put, List.getElem_toArray, List.getElem_cons_zero, List.getElem_cons_succ, List.setIfInBounds_toArray, List.set_cons_zero, List.set_cons_succ])
                refine wpAnyH_ready (rs := [9]) (by kernel_rfl) (by simp) (AllReadyH.cons rfl (fun K hK => ?_) AllReadyH.nil)
                go_simp
                have HST4 := Lib.hid (HST3.out.alloc (.cells #[.int .u8 (t.kid k).kind, .int .i64 (t.kid k).num, .string (t.kid k).name, .slice (x k).1 (t.kid k).len (x k).2] 24))
                refine hK.out _ _ HST4.out.ps (fun hHeld => ?_)
                clear hK K
                rename_i hOld
                clear hOld
                (try simp only [Act.put, List.getElem_toArray, List.getElem_cons_zero, List.getElem_cons_succ, List.setIfInBounds_toArray, List.set_cons_zero, List.set_cons_succ])
                generalize hw : World.alloc v3 _ = v4 at hHeld HST4 ⊢
                clear hw
                refine wpAnyH_ready (rs := [10]) (by kernel_rfl) (by simp) (AllReadyH.cons rfl (fun K hK => ?_) AllReadyH.nil)
                refine step_append_at rfl (.tmp 72) (.tmp 78) 22 rfl Wb.heap.size 24 i0 _ 4 56 Tryd.underlying22 hi hz0 hz1 hz2 rfl (by decide) (.slice ra3 t.len rc3) t.len (rowsTo t.kid x t.len) (by simp [Act.eval]) HST4.out.own ⟨v3.heap.size, 0, none⟩ 1 1 (rowsTo (fun _ => (t.kid k)) (fun _ => (x k)) 1) (by simp [Act.eval]) (rowsTo_len _ _ _) (src_cells (u := (t.kid k)) (x := (x k)) (HST4.out.blk (v3.heap.size, (.cells #[.int .u8 (t.kid k).kind, .int .i64 (t.kid k).num, .string (t.kid k).name, .slice (x k).1 (t.kid k).len (x k).2] 24)) (by simp)).1) rowsTo_one (by unfold maxLen; omega) (by omega) HST4.out.ps.bel.size ?_
                intro r5 v5 hown hgrow hplace
                obtain ⟨ra5, rc5, rfl⟩ := own_slice hown
                have HST5 := Lib.hid (HST4.out.grow hown hgrow hplace)
                refine hK.out _ _ HST5.out.ps (fun hHeld => ?_)
                clear hK K hown hgrow hplace
                rename_i hOld
                clear hOld
                (try simp only [Act.put, List.getElem_toArray, List.getElem_cons_zero, List.getElem_cons_succ, List.setIfInBounds_toArray, List.set_cons_zero, List.set_cons_succ])
                refine wpAnyH_take (i := 11) (v := .agg #[.int .u8 47, .int .i64 0, .string ⟨#[]⟩, (.slice ra5 (t.len + 1) rc5)]) rfl (by kernel_rfl) (by kernel_rfl) (by kernel_rfl) (fun _ _ _ h => h) (Or.inl ⟨by rfl, ?_⟩) (by assumption) ?_
                · intro w' hSw; go_simp
                (try simp only [Act.put, List.getElem_toArray, List.getElem_cons_zero, List.getElem_cons_succ, List.setIfInBounds_toArray, List.set_cons_zero, List.set_cons_succ])
                obtain ⟨⟨z0, z1, z2, z3⟩, y0, y1, y2, y3⟩ := blk4 (HST5.out.blk (v0.heap.size, (.cells #[.int .u8 0, .int .i64 0, .string ⟨#[]⟩, .slice none 0 0] 24)) (by simp)).1
                refine wpAnyH_ready (rs := [13]) (by kernel_rfl) (by simp) (AllReadyH.cons rfl (fun K hK => ?_) AllReadyH.nil)
                go_simp
                have HE := Lib.hid (HST5.out.put (Y := v0.heap.size) (by simp))
                refine hK.out _ _ HE.out.ps (fun hHeld => ?_)
                refine wpAnyH_done (by kernel_rfl) ?_ _
                exact ⟨v1.heap.size, v3.heap.size, (.slice ra3 t.len rc3), (.slice ra5 (t.len + 1) rc5), v0.heap.size, by simp only [List.setIfInBounds_toArray, List.set_cons_zero, List.set_cons_succ], HE.out⟩
              · skip
                go_simp
                have HST3 := Lib.hid (HST2.out.alloc (.cells #[.int .u8 (t.kid k).kind, .int .i64 (t.kid k).num, .string (t.kid k).name, .slice (x k).1 (t.kid k).len (x k).2] 24))
                refine hK.out _ _ HST3.out.ps (fun hHeld => ?_)
                clear hK K
                rename_i hOld
                clear hOld
                (try simp only [Act.put, List.getElem_toArray, List.getElem_cons_zero, List.getElem_cons_succ, List.setIfInBounds_toArray, List.set_cons_zero, List.set_cons_succ])
                generalize hw : World.alloc v2 _ = v3 at hHeld HST3 ⊢
                clear hw
                refine wpAnyH_ready (rs := [3]) (by kernel_rfl) (by simp) (AllReadyH.cons rfl (fun K hK => ?_) AllReadyH.nil)
                refine step_append_at rfl (.tmp 69) (.tmp 71) 22 rfl Wb.heap.size 24 i0 _ 4 56 Tryd.underlying22 hi hz0 hz1 hz2 rfl (by decide) (.slice (some ⟨v1.heap.size, 0, none⟩) 0 0) 0 [] (by simp [Act.eval]) HST3.out.own ⟨kb, ko, none⟩ t.len c (rowsTo t.kid x t.len) (by simp [Act.eval]) (rowsTo_len _ _ _) (KC2.out _ HST3.out.ps) rowsTo_one (by unfold maxLen; omega) (by omega) HST3.out.ps.bel.size ?_
                intro r4 v4 hown hgrow hplace
                rw [Nat.zero_add, List.nil_append] at hown
                obtain ⟨ra4, rc4, rfl⟩ := own_slice hown
                have HST4 := Lib.hid (HST3.out.grow hown hgrow hplace)
                refine hK.out _ _ HST4.out.ps (fun hHeld => ?_)
                clear hK K hown hgrow hplace
                rename_i hOld
                clear hOld
                (try simp only [Act.put, List.getElem_toArray, List.getElem_cons_zero, List.getElem_cons_succ, List.setIfInBounds_toArray, List.set_cons_zero, List.set_cons_succ])
                refine wpAnyH_ready (rs := [10]) (by kernel_rfl) (by simp) (AllReadyH.cons rfl (fun K hK => ?_) AllReadyH.nil)
                refine step_append_at rfl (.tmp 72) (.tmp 78) 22 rfl Wb.heap.size 24 i0 _ 4 56 Tryd.underlying22 hi hz0 hz1 hz2 rfl (by decide) (.slice ra4 t.len rc4) t.len (rowsTo t.kid x t.len) (by simp [Act.eval]) HST4.out.own ⟨v2.heap.size, 0, none⟩ 1 1 (rowsTo (fun _ => (t.kid k)) (fun _ => (x k)) 1) (by simp [Act.eval]) (rowsTo_len _ _ _) (src_cells (u := (t.kid k)) (x := (x k)) (HST4.out.blk (v2.heap.size, (.cells #[.int .u8 (t.kid k).kind, .int .i64 (t.kid k).num, .string (t.kid k).name, .slice (x k).1 (t.kid k).len (x k).2] 24)) (by simp)).1) rowsTo_one (by unfold maxLen; omega) (by omega) HST4.out.ps.bel.size ?_
                intro r5 v5 hown hgrow hplace
                obtain ⟨ra5, rc5, rfl⟩ := own_slice hown
                have HST5 := Lib.hid (HST4.out.grow hown hgrow hplace)
                refine hK.out _ _ HST5.out.ps (fun hHeld => ?_)
                clear hK K hown hgrow hplace
                rename_i hOld
                clear hOld
                (try simp only [Act.put, List.getElem_toArray, List.getElem_cons_zero, List.getElem_cons_succ, List.setIfInBounds_toArray, List.set_cons_zero, List.set_cons_succ])
                refine wpAnyH_take (i := 11) (v := .agg #[.int .u8 47, .int .i64 0, .string ⟨#[]⟩, (.slice ra5 (t.len + 1) rc5)]) rfl (by kernel_rfl) (by kernel_rfl) (by kernel_rfl) (fun _ _ _ h => h) (Or.inl ⟨by rfl, ?_⟩) (by assumption) ?_
                · intro w' hSw; go_simp
                (try simp only [Act.put, List.getElem_toArray, List.getElem_cons_zero, List.getElem_cons_succ, List.setIfInBounds_toArray, List.set_cons_zero, List.set_cons_succ])
                obtain ⟨⟨z0, z1, z2, z3⟩, y0, y1, y2, y3⟩ := blk4 (HST5.out.blk (v0.heap.size, (.cells #[.int .u8 0, .int .i64 0, .string ⟨#[]⟩, .slice none 0 0] 24)) (by simp)).1
                refine wpAnyH_ready (rs := [13]) (by kernel_rfl) (by simp) (AllReadyH.cons rfl (fun K hK => ?_) AllReadyH.nil)
                go_simp
                have HE := Lib.hid (HST5.out.put (Y := v0.heap.size) (by simp))
                refine hK.out _ _ HE.out.ps (fun hHeld => ?_)
                refine wpAnyH_done (by kernel_rfl) ?_ _
                exact ⟨v1.heap.size, v2.heap.size, (.slice ra4 t.len rc4), (.slice ra5 (t.len + 1) rc5), v0.heap.size, by simp only [List.setIfInBounds_toArray, List.set_cons_zero, List.set_cons_succ], HE.out⟩
            · skip
              go_simp
              have HST2 := Lib.hid (HST1.out.alloc (.cells #[.int .u8 (t.kid k).kind, .int .i64 (t.kid k).num, .string (t.kid k).name, .slice (x k).1 (t.kid k).len (x k).2] 24))
              refine hK.out _ _ HST2.out.ps (fun hHeld => ?_)
              clear hK K
              rename_i hOld
              clear hOld
              (try simp only [Act.put, List.getElem_toArray, List.getElem_cons_zero, List.getElem_cons_succ, List.setIfInBounds_toArray, List.set_cons_zero, List.set_cons_succ])
              generalize hw : World.alloc v1 _ = v2 at hHeld HST2 ⊢
              clear hw
              refine wpAnyH_ready (rs := [0]) (by kernel_rfl) (by simp) (AllReadyH.cons rfl (fun K hK => ?_) AllReadyH.nil)
              go_simp
              have HST3 := Lib.hid HST2.out.start
              refine hK.out _ _ HST3.out.ps (fun hHeld => ?_)
              clear hK K
              rename_i hOld
              clear hOld
              (try simp only [Act.put, List.getElem_toArray, List.getElem_cons_zero, List.getElem_cons_succ, List.setIfInBounds_toArray, List.set_cons_zero, List.set_cons_succ])
              generalize hw : World.alloc v2 _ = v3 at hHeld HST3 ⊢
              clear hw
              refine wpAnyH_ready (rs := [3]) (by kernel_rfl) (by simp) (AllReadyH.cons rfl (fun K hK => ?_) AllReadyH.nil)
              refine step_append_at rfl (.tmp 69) (.tmp 71) 22 rfl Wb.heap.size 24 i0 _ 4 56 Tryd.underlying22 hi hz0 hz1 hz2 rfl (by decide) (.slice (some ⟨v2.heap.size, 0, none⟩) 0 0) 0 [] (by simp [Act.eval]) HST3.out.own ⟨kb, ko, none⟩ t.len c (rowsTo t.kid x t.len) (by simp [Act.eval]) (rowsTo_len _ _ _) (KC2.out _ HST3.out.ps) rowsTo_one (by unfold maxLen; omega) (by omega) HST3.out.ps.bel.size ?_
              intro r4 v4 hown hgrow hplace
              rw [Nat.zero_add, List.nil_append] at hown
              obtain ⟨ra4, rc4, rfl⟩ := own_slice hown
              have HST4 := Lib.hid (HST3.out.grow hown hgrow hplace)
              refine hK.out _ _ HST4.out.ps (fun hHeld => ?_)
              clear hK K hown hgrow hplace
              rename_i hOld
              clear hOld
              (try simp only [Act.put, List.getElem_toArray, List.getElem_cons_zero, List.getElem_cons_succ, List.setIfInBounds_toArray, List.set_cons_zero, List.set_cons_succ])
              refine wpAnyH_ready (rs := [10]) (by kernel_rfl) (by simp) (AllReadyH.cons rfl (fun K hK => ?_) AllReadyH.nil)
              refine step_append_at rfl (.tmp 72) (.tmp 78) 22 rfl Wb.heap.size 24 i0 _ 4 56 Tryd.underlying22 hi hz0 hz1 hz2 rfl (by decide) (.slice ra4 t.len rc4) t.len (rowsTo t.kid x t.len) (by simp [Act.eval]) HST4.out.own ⟨v1.heap.size, 0, none⟩ 1 1 (rowsTo (fun _ => (t.kid k)) (fun _ => (x k)) 1) (by simp [Act.eval]) (rowsTo_len _ _ _) (src_cells (u := (t.kid k)) (x := (x k)) (HST4.out.blk (v1.heap.size, (.cells #[.int .u8 (t.kid k).kind, .int .i64 (t.kid k).num, .string (t.kid k).name, .slice (x k).1 (t.kid k).len (x k).2] 24)) (by simp)).1) rowsTo_one (by unfold maxLen; omega) (by omega) HST4.out.ps.bel.size ?_
              intro r5 v5 hown hgrow hplace
              obtain ⟨ra5, rc5, rfl⟩ := own_slice hown
              have HST5 := Lib.hid (HST4.out.grow hown hgrow hplace)
              refine hK.out _ _ HST5.out.ps (fun hHeld => ?_)
              clear hK K hown hgrow hplace
              rename_i hOld
              clear hOld
              (try simp only [Act.put, List.getElem_toArray, List.getElem_cons_zero, List.getElem_cons_succ, List.setIfInBounds_toArray, List.set_cons_zero, List.set_cons_succ])
              refine wpAnyH_take (i := 11) (v := .agg #[.int .u8 47, .int .i64 0, .string ⟨#[]⟩, (.slice ra5 (t.len + 1) rc5)]) rfl (by kernel_rfl) (by kernel_rfl) (by kernel_rfl) (fun _ _ _ h => h) (Or.inl ⟨by rfl, ?_⟩) (by assumption) ?_
              · intro w' hSw; go_simp
              (try simp only [Act.put, List.getElem_toArray, List.getElem_cons_zero, List.getElem_cons_succ, List.setIfInBounds_toArray, List.set_cons_zero, List.set_cons_succ])
              obtain ⟨⟨z0, z1, z2, z3⟩, y0, y1, y2, y3⟩ := blk4 (HST5.out.blk (v0.heap.size, (.cells #[.int .u8 0, .int .i64 0, .string ⟨#[]⟩, .slice none 0 0] 24)) (by simp)).1
              refine wpAnyH_ready (rs := [13]) (by kernel_rfl) (by simp) (AllReadyH.cons rfl (fun K hK => ?_) AllReadyH.nil)
              go_simp
              have HE := Lib.hid (HST5.out.put (Y := v0.heap.size) (by simp))
              refine hK.out _ _ HE.out.ps (fun hHeld => ?_)
              refine wpAnyH_done (by kernel_rfl) ?_ _
              exact ⟨v2.heap.size, v1.heap.size, (.slice ra4 t.len rc4), (.slice ra5 (t.len + 1) rc5), v0.heap.size, by simp only [List.setIfInBounds_toArray, List.set_cons_zero, List.set_cons_succ], HE.out⟩
        · rintro a' Wc ⟨g0', g1', s1', s2', Y2, rfl, hE2⟩
          have HE2 := Lib.hid hE2
          have hWc : Wb.heap.size ≤ Wc.heap.size := hE2.ps.bel.size
          clear hE2
          simp only [List.setIfInBounds_toArray, List.set_cons_zero, List.set_cons_succ]
          have HPS21 : Hid (PartS t (some ⟨kb, ko, none⟩) c w.heap.size Wc Wc.drew) := ⟨HE2.out.ps.box, (Below.refl _ _).drew, by omega⟩
          have HKWc : Hid (∀ i, i < t.len → NodeAt Wc kb (ko + i * 4) (t.kid i) (x i).1 (x i).2) := HE2.out.ps.kids HKWb.out
          have KC3 : Hid (∀ v, PartS t (some ⟨kb, ko, none⟩) c w.heap.size Wc v → ∀ j u, (rowsTo t.kid x t.len)[j]? = some u → v.cell? ((⟨kb, ko, none⟩ : Addr).add j) = some u) := by
            intro v hv
            have := kids_cells (hv.kids HKWc.out) (lo := 0) (m := t.len) (by omega)
            simpa using this
          go_wp2_with fail
          refine cut_wp (R21 t (some ⟨kb, ko, none⟩) c w.heap.size Wc x) ?_ ?_
          ·
            refine wp_region_held_drew (S := PartS t (some ⟨kb, ko, none⟩) c w.heap.size Wc) (by kernel_rfl) HPS21.out (fun hHeld => ?_)
            generalize hw0 : World.drew _ = v0 at hHeld ⊢
            clear hw0
            have HST0 := Lib.hid (PartSt.begin hHeld)
            refine wpAnyH_take (i := 1) (v := .pointer (some ⟨w.heap.size, 3, none⟩)) rfl (by kernel_rfl) (by kernel_rfl) (by kernel_rfl) (fun _ _ _ h => h) (Or.inl ⟨by rfl, ?_⟩) (by assumption) ?_
            · intro w' hSw; go_simp
            (try simp only [Act.put, List.getElem_toArray, List.getElem_cons_zero, List.getElem_cons_succ, List.setIfInBounds_toArray, List.set_cons_zero, List.set_cons_succ])
            refine wpAnyH_take (i := 2) (v := .slice (some ⟨kb, ko, none⟩) t.len c) rfl (by kernel_rfl) (by kernel_rfl) (by kernel_rfl) (fun _ _ _ h => h) (Or.inl ⟨by rfl, ?_⟩) (by assumption) ?_
            · intro w' hSw; obtain ⟨⟨q0, q1, q2, q3⟩, _⟩ := blk4 hSw.box; clear hSw; go_simp
            (try simp only [Act.put, List.getElem_toArray, List.getElem_cons_zero, List.getElem_cons_succ, List.setIfInBounds_toArray, List.set_cons_zero, List.set_cons_succ])
            refine wpAnyH_take (i := 4) (v := t.val (some ⟨kb, ko, none⟩) c) rfl (by kernel_rfl) (by kernel_rfl) (by kernel_rfl) (fun _ _ _ h => h) (Or.inl ⟨by rfl, ?_⟩) (by assumption) ?_
            · intro w' hSw; obtain ⟨⟨q0, q1, q2, q3⟩, _⟩ := blk4 hSw.box; clear hSw; go_simp
            (try simp only [Act.put, List.getElem_toArray, List.getElem_cons_zero, List.getElem_cons_succ, List.setIfInBounds_toArray, List.set_cons_zero, List.set_cons_succ])
            refine wpAnyH_ready (rs := [0, 5, 8]) (by kernel_rfl) (by simp) (AllReadyH.cons rfl (fun K hK => ?_) (AllReadyH.cons rfl (fun K hK => ?_) (AllReadyH.cons rfl (fun K hK => ?_) AllReadyH.nil)))
            · skip
              go_simp
              have HST1 := Lib.hid HST0.out.start
              refine hK.out _ _ HST1.out.ps (fun hHeld => ?_)
              clear hK K
              rename_i hOld
              clear hOld
              (try simp only [Act.put, List.getElem_toArray, List.getElem_cons_zero, List.getElem_cons_succ, List.setIfInBounds_toArray, List.set_cons_zero, List.set_cons_succ])
              generalize hw : World.alloc v0 _ = v1 at hHeld HST1 ⊢
              clear hw
              refine wpAnyH_ready (rs := [3, 5, 8]) (by kernel_rfl) (by simp) (AllReadyH.cons rfl (fun K hK => ?_) (AllReadyH.cons rfl (fun K hK => ?_) (AllReadyH.cons rfl (fun K hK => ?_) AllReadyH.nil)))
              · skip
                refine step_append_at rfl (.tmp 81) (.tmp 83) 22 rfl Wc.heap.size 24 i0 _ 4 56 Tryd.underlying22 hi hz0 hz1 hz2 rfl (by decide) (.slice (some ⟨v0.heap.size, 0, none⟩) 0 0) 0 [] (by simp [Act.eval]) HST1.out.own ⟨kb, ko, none⟩ t.len c (rowsTo t.kid x t.len) (by simp [Act.eval]) (rowsTo_len _ _ _) (KC3.out _ HST1.out.ps) rowsTo_one (by unfold maxLen; omega) (by omega) HST1.out.ps.bel.size ?_
                intro r2 v2 hown hgrow hplace
                rw [Nat.zero_add, List.nil_append] at hown
                obtain ⟨ra2, rc2, rfl⟩ := own_slice hown
                have HST2 := Lib.hid (HST1.out.grow hown hgrow hplace)
                refine hK.out _ _ HST2.out.ps (fun hHeld => ?_)
                clear hK K hown hgrow hplace
                rename_i hOld
                clear hOld
                (try simp only [Act.put, List.getElem_toArray, List.getElem_cons_zero, List.getElem_cons_succ, List.setIfInBounds_toArray, List.set_cons_zero, List.set_cons_succ])
                refine wpAnyH_ready (rs := [5, 8]) (by kernel_rfl) (by simp) (AllReadyH.cons rfl (fun K hK => ?_) (AllReadyH.cons rfl (fun K hK => ?_) AllReadyH.nil))
                · skip
                  go_simp
                  have HST3 := Lib.hid (HST2.out.alloc (.cells #[.int .u8 t.kind, .int .i64 t.num, .string t.name, .slice (some ⟨kb, ko, none⟩) t.len c] 24))
                  refine hK.out _ _ HST3.out.ps (fun hHeld => ?_)
                  clear hK K
                  rename_i hOld
                  clear hOld
                  (try simp only [Act.put, List.getElem_toArray, List.getElem_cons_zero, List.getElem_cons_succ, List.setIfInBounds_toArray, List.set_cons_zero, List.set_cons_succ])
                  generalize hw : World.alloc v2 _ = v3 at hHeld HST3 ⊢
                  clear hw
                  refine wpAnyH_ready (rs := [6, 8]) (by kernel_rfl) (by simp) (AllReadyH.cons rfl (fun K hK => ?_) (AllReadyH.cons rfl (fun K hK => ?_) AllReadyH.nil))
                  · skip
                    refine step_append_at rfl (.tmp 84) (.tmp 86) 22 rfl Wc.heap.size 24 i0 _ 4 56 Tryd.underlying22 hi hz0 hz1 hz2 rfl (by decide) (.slice ra2 t.len rc2) t.len (rowsTo t.kid x t.len) (by simp [Act.eval]) HST3.out.own ⟨v2.heap.size, 0, none⟩ 1 1 (rowsTo (fun _ => t) (fun _ => ((some (⟨kb, ko, none⟩ : Addr) : Option Addr), c)) 1) (by simp [Act.eval]) (rowsTo_len _ _ _) (src_cells (u := t) (x := ((some (⟨kb, ko, none⟩ : Addr) : Option Addr), c)) (HST3.out.blk (v2.heap.size, (.cells #[.int .u8 t.kind, .int .i64 t.num, .string t.name, .slice (some ⟨kb, ko, none⟩) t.len c] 24)) (by simp)).1) rowsTo_one (by unfold maxLen; omega) (by omega) HST3.out.ps.bel.size ?_
                    intro r4 v4 hown hgrow hplace
                    obtain ⟨ra4, rc4, rfl⟩ := own_slice hown
                    have HST4 := Lib.hid (HST3.out.grow hown hgrow hplace)
                    refine hK.out _ _ HST4.out.ps (fun hHeld => ?_)
                    clear hK K hown hgrow hplace
                    rename_i hOld
                    clear hOld
                    (try simp only [Act.put, List.getElem_toArray, List.getElem_cons_zero, List.getElem_cons_succ, List.setIfInBounds_toArray, List.set_cons_zero, List.set_cons_succ])
                    refine wpAnyH_take (i := 7) (v := .agg #[.int .u8 47, .int .i64 0, .string ⟨#[]⟩, (.slice ra4 (t.len + 1) rc4)]) rfl (by kernel_rfl) (by kernel_rfl) (by kernel_rfl) (fun _ _ _ h => h) (Or.inl ⟨by rfl, ?_⟩) (by assumption) ?_
                    · intro w' hSw; go_simp
                    (try simp only [Act.put, List.getElem_toArray, List.getElem_cons_zero, List.getElem_cons_succ, List.setIfInBounds_toArray, List.set_cons_zero, List.set_cons_succ])
                    refine wpAnyH_ready (rs := [8]) (by kernel_rfl) (by simp) (AllReadyH.cons rfl (fun K hK => ?_) AllReadyH.nil)
                    go_simp
                    have HST5 := Lib.hid (HST4.out.alloc (.cells #[.int .u8 0, .int .i64 0, .string ⟨#[]⟩, .slice none 0 0] 24))
                    refine hK.out _ _ HST5.out.ps (fun hHeld => ?_)
                    clear hK K
                    rename_i hOld
                    clear hOld
                    (try simp only [Act.put, List.getElem_toArray, List.getElem_cons_zero, List.getElem_cons_succ, List.setIfInBounds_toArray, List.set_cons_zero, List.set_cons_succ])
                    generalize hw : World.alloc v4 _ = v5 at hHeld HST5 ⊢
                    clear hw
                    obtain ⟨⟨z0, z1, z2, z3⟩, y0, y1, y2, y3⟩ := blk4 (HST5.out.blk (v4.heap.size, (.cells #[.int .u8 0, .int .i64 0, .string ⟨#[]⟩, .slice none 0 0] 24)) (by simp)).1
                    refine wpAnyH_ready (rs := [9]) (by kernel_rfl) (by simp) (AllReadyH.cons rfl (fun K hK => ?_) AllReadyH.nil)
                    go_simp
                    have HE := Lib.hid (HST5.out.put (Y := v4.heap.size) (by simp))
                    refine hK.out _ _ HE.out.ps (fun hHeld => ?_)
                    refine wpAnyH_done (by kernel_rfl) ?_ _
                    exact ⟨v0.heap.size, v2.heap.size, (.slice ra2 t.len rc2), (.slice ra4 (t.len + 1) rc4), v4.heap.size, by simp only [List.setIfInBounds_toArray, List.set_cons_zero, List.set_cons_succ], HE.out⟩
                  · skip
                    go_simp
                    have HST4 := Lib.hid (HST3.out.alloc (.cells #[.int .u8 0, .int .i64 0, .string ⟨#[]⟩, .slice none 0 0] 24))
                    refine hK.out _ _ HST4.out.ps (fun hHeld => ?_)
                    clear hK K
                    rename_i hOld
                    clear hOld
                    (try simp only [Act.put, List.getElem_toArray, List.getElem_cons_zero, List.getElem_cons_succ, List.setIfInBounds_toArray, List.set_cons_zero, List.set_cons_succ])
                    generalize hw : World.alloc v3 _ = v4 at hHeld HST4 ⊢
                    clear hw
                    refine wpAnyH_ready (rs := [6]) (by kernel_rfl) (by simp) (AllReadyH.cons rfl (fun K hK => ?_) AllReadyH.nil)
                    refine step_append_at rfl (.tmp 84) (.tmp 86) 22 rfl Wc.heap.size 24 i0 _ 4 56 Tryd.underlying22 hi hz0 hz1 hz2 rfl (by decide) (.slice ra2 t.len rc2) t.len (rowsTo t.kid x t.len) (by simp [Act.eval]) HST4.out.own ⟨v2.heap.size, 0, none⟩ 1 1 (rowsTo (fun _ => t) (fun _ => ((some (⟨kb, ko, none⟩ : Addr) : Option Addr), c)) 1) (by simp [Act.eval]) (rowsTo_len _ _ _) (src_cells (u := t) (x := ((some (⟨kb, ko, none⟩ : Addr) : Option Addr), c)) (HST4.out.blk (v2.heap.size, (.cells #[.int .u8 t.kind, .int .i64 t.num, .string t.name, .slice (some ⟨kb, ko, none⟩) t.len c] 24)) (by simp)).1) rowsTo_one (by unfold maxLen; omega) (by omega) HST4.out.ps.bel.size ?_
                    intro r5 v5 hown hgrow hplace
                    obtain ⟨ra5, rc5, rfl⟩ := own_slice hown
                    have HST5 := Lib.hid (HST4.out.grow hown hgrow hplace)
                    refine hK.out _ _ HST5.out.ps (fun hHeld => ?_)
                    clear hK K hown hgrow hplace
                    rename_i hOld
                    clear hOld
                    (try simp only [Act.put, List.getElem_toArray, List.getElem_cons_zero, List.getElem_cons_succ, List.setIfInBounds_toArray, List.set_cons_zero, List.set_cons_succ])
                    refine wpAnyH_take (i := 7) (v := .agg #[.int .u8 47, .int .i64 0, .string ⟨#[]⟩, (.slice ra5 (t.len + 1) rc5)]) rfl (by kernel_rfl) (by kernel_rfl) (by kernel_rfl) (fun _ _ _ h => h) (Or.inl ⟨by rfl, ?_⟩) (by assumption) ?_
                    · intro w' hSw; go_simp
                    (try simp only [Act.put, List.getElem_toArray, List.getElem_cons_zero, List.getElem_cons_succ, List.setIfInBounds_toArray, List.set_cons_zero, List.set_cons_succ])
                    obtain ⟨⟨z0, z1, z2, z3⟩, y0, y1, y2, y3⟩ := blk4 (HST5.out.blk (v3.heap.size, (.cells #[.int .u8 0, .int .i64 0, .string ⟨#[]⟩, .slice none 0 0] 24)) (by simp)).1
                    refine wpAnyH_ready (rs := [9]) (by kernel_rfl) (by simp) (AllReadyH.cons rfl (fun K hK => ?_) AllReadyH.nil)
                    go_simp
                    have HE := Lib.hid (HST5.out.put (Y := v3.heap.size) (by simp))
                    refine hK.out _ _ HE.out.ps (fun hHeld => ?_)
                    refine wpAnyH_done (by kernel_rfl) ?_ _
                    exact ⟨v0.heap.size, v2.heap.size, (.slice ra2 t.len rc2), (.slice ra5 (t.len + 1) rc5), v3.heap.size, by simp only [List.setIfInBounds_toArray, List.set_cons_zero, List.set_cons_succ], HE.out⟩
                · skip
                  go_simp
                  have HST3 := Lib.hid (HST2.out.alloc (.cells #[.int .u8 0, .int .i64 0, .string ⟨#[]⟩, .slice none 0 0] 24))
                  refine hK.out _ _ HST3.out.ps (fun hHeld => ?_)
                  clear hK K
                  rename_i hOld
                  clear hOld
                  (try simp only [Act.put, List.getElem_toArray, List.getElem_cons_zero, List.getElem_cons_succ, List.setIfInBounds_toArray, List.set_cons_zero, List.set_cons_succ])
                  generalize hw : World.alloc v2 _ = v3 at hHeld HST3 ⊢
                  clear hw
                  refine wpAnyH_ready (rs := [5]) (by kernel_rfl) (by simp) (AllReadyH.cons rfl (fun K hK => ?_) AllReadyH.nil)
                  go_simp
                  have HST4 := Lib.hid (HST3.out.alloc (.cells #[.int .u8 t.kind, .int .i64 t.num, .string t.name, .slice (some ⟨kb, ko, none⟩) t.len c] 24))
                  refine hK.out _ _ HST4.out.ps (fun hHeld => ?_)
                  clear hK K
                  rename_i hOld
                  clear hOld
                  (try simp only [Act.put, List.getElem_toArray, List.getElem_cons_zero, List.getElem_cons_succ, List.setIfInBounds_toArray, List.set_cons_zero, List.set_cons_succ])
                  generalize hw : World.alloc v3 _ = v4 at hHeld HST4 ⊢
                  clear hw
                  refine wpAnyH_ready (rs := [6]) (by kernel_rfl) (by simp) (AllReadyH.cons rfl (fun K hK => ?_) AllReadyH.nil)
                  refine step_append_at rfl (.tmp 84) (.tmp 86) 22 rfl Wc.heap.size 24 i0 _ 4 56 Tryd.underlying22 hi hz0 hz1 hz2 rfl (by decide) (.slice ra2 t.len rc2) t.len (rowsTo t.kid x t.len) (by simp [Act.eval]) HST4.out.own ⟨v3.heap.size, 0, none⟩ 1 1 (rowsTo (fun _ => t) (fun _ => ((some (⟨kb, ko, none⟩ : Addr) : Option Addr), c)) 1) (by simp [Act.eval]) (rowsTo_len _ _ _) (src_cells (u := t) (x := ((some (⟨kb, ko, none⟩ : Addr) : Option Addr), c)) (HST4.out.blk (v3.heap.size, (.cells #[.int .u8 t.kind, .int .i64 t.num, .string t.name, .slice (some ⟨kb, ko, none⟩) t.len c] 24)) (by simp)).1) rowsTo_one (by unfold maxLen; omega) (by omega) HST4.out.ps.bel.size ?_
                  intro r5 v5 hown hgrow hplace
                  obtain ⟨ra5, rc5, rfl⟩ := own_slice hown
                  have HST5 := Lib.hid (HST4.out.grow hown hgrow hplace)
                  refine hK.out _ _ HST5.out.ps (fun hHeld => ?_)
                  clear hK K hown hgrow hplace
                  rename_i hOld
                  clear hOld
                  (try simp only [Act.put, List.getElem_toArray, List.getElem_cons_zero, List.getElem_cons_succ, List.setIfInBounds_toArray, List.set_cons_zero, List.set_cons_succ])
                  refine wpAnyH_take (i := 7) (v := .agg #[.int .u8 47, .int .i64 0, .string ⟨#[]⟩, (.slice ra5 (t.len + 1) rc5)]) rfl (by kernel_rfl) (by kernel_rfl) (by kernel_rfl) (fun _ _ _ h => h) (Or.inl ⟨by rfl, ?_⟩) (by assumption) ?_
                  · intro w' hSw; go_simp
                  (try simp only [Act.put, List.getElem_toArray, List.getElem_cons_zero, List.getElem_cons_succ, List.setIfInBounds_toArray, List.set_cons_zero, List.set_cons_succ])
                  obtain ⟨⟨z0, z1, z2, z3⟩, y0, y1, y2, y3⟩ := blk4 (HST5.out.blk (v2.heap.size, (.cells #[.int .u8 0, .int .i64 0, .string ⟨#[]⟩, .slice none 0 0] 24)) (by simp)).1
                  refine wpAnyH_ready (rs := [9]) (by kernel_rfl) (by simp) (AllReadyH.cons rfl (fun K hK => ?_) AllReadyH.nil)
                  go_simp
                  have HE := Lib.hid (HST5.out.put (Y := v2.heap.size) (by simp))
                  refine hK.out _ _ HE.out.ps (fun hHeld => ?_)
                  refine wpAnyH_done (by kernel_rfl) ?_ _
                  exact ⟨v0.heap.size, v3.heap.size, (.slice ra2 t.len rc2), (.slice ra5 (t.len + 1) rc5), v2.heap.size, by simp only [List.setIfInBounds_toArray, List.set_cons_zero, List.set_cons_succ], HE.out⟩
              · skip
                go_simp
                have HST2 := Lib.hid (HST1.out.alloc (.cells #[.int .u8 t.kind, .int .i64 t.num, .string t.name, .slice (some ⟨kb, ko, none⟩) t.len c] 24))
                refine hK.out _ _ HST2.out.ps (fun hHeld => ?_)
                clear hK K
                rename_i hOld
                clear hOld
                (try simp only [Act.put, List.getElem_toArray, List.getElem_cons_zero, List.getElem_cons_succ, List.setIfInBounds_toArray, List.set_cons_zero, List.set_cons_succ])
                generalize hw : World.alloc v1 _ = v2 at hHeld HST2 ⊢
                clear hw
                refine wpAnyH_ready (rs := [3, 8]) (by kernel_rfl) (by simp) (AllReadyH.cons rfl (fun K hK => ?_) (AllReadyH.cons rfl (fun K hK => ?_) AllReadyH.nil))
                · skip
                  refine step_append_at rfl (.tmp 81) (.tmp 83) 22 rfl Wc.heap.size 24 i0 _ 4 56 Tryd.underlying22 hi hz0 hz1 hz2 rfl (by decide) (.slice (some ⟨v0.heap.size, 0, none⟩) 0 0) 0 [] (by simp [Act.eval]) HST2.out.own ⟨kb, ko, none⟩ t.len c (rowsTo t.kid x t.len) (by simp [Act.eval]) (rowsTo_len _ _ _) (KC3.out _ HST2.out.ps) rowsTo_one (by unfold maxLen; omega) (by omega) HST2.out.ps.bel.size ?_
                  intro r3 v3 hown hgrow hplace
                  rw [Nat.zero_add, List.nil_append] at hown
                  obtain ⟨ra3, rc3, rfl⟩ := own_slice hown
                  have HST3 := Lib.hid (HST2.out.grow hown hgrow hplace)
                  refine hK.out _ _ HST3.out.ps (fun hHeld => ?_)
                  clear hK K hown hgrow hplace
                  rename_i hOld
                  clear hOld
                  (try simp only [Act.put, List.getElem_toArray, List.getElem_cons_zero, List.getElem_cons_succ, List.setIfInBounds_toArray, List.set_cons_zero, List.set_cons_succ])
                  refine wpAnyH_ready (rs := [6, 8]) (by kernel_rfl) (by simp) (AllReadyH.cons rfl (fun K hK => ?_) (AllReadyH.cons rfl (fun K hK => ?_) AllReadyH.nil))
                  · skip
                    refine step_append_at rfl (.tmp 84) (.tmp 86) 22 rfl Wc.heap.size 24 i0 _ 4 56 Tryd.underlying22 hi hz0 hz1 hz2 rfl (by decide) (.slice ra3 t.len rc3) t.len (rowsTo t.kid x t.len) (by simp [Act.eval]) HST3.out.own ⟨v1.heap.size, 0, none⟩ 1 1 (rowsTo (fun _ => t) (fun _ => ((some (⟨kb, ko, none⟩ : Addr) : Option Addr), c)) 1) (by simp [Act.eval]) (rowsTo_len _ _ _) (src_cells (u := t) (x := ((some (⟨kb, ko, none⟩ : Addr) : Option Addr), c)) (HST3.out.blk (v1.heap.size, (.cells #[.int .u8 t.kind, .int .i64 t.num, .string t.name, .slice (some ⟨kb, ko, none⟩) t.len c] 24)) (by simp)).1) rowsTo_one (by unfold maxLen; omega) (by omega) HST3.out.ps.bel.size ?_
                    intro r4 v4 hown hgrow hplace
                    obtain ⟨ra4, rc4, rfl⟩ := own_slice hown
                    have HST4 := Lib.hid (HST3.out.grow hown hgrow hplace)
                    refine hK.out _ _ HST4.out.ps (fun hHeld => ?_)
                    clear hK K hown hgrow hplace
                    rename_i hOld
                    clear hOld
                    (try simp only [Act.put, List.getElem_toArray, List.getElem_cons_zero, List.getElem_cons_succ, List.setIfInBounds_toArray, List.set_cons_zero, List.set_cons_succ])
                    refine wpAnyH_take (i := 7) (v := .agg #[.int .u8 47, .int .i64 0, .string ⟨#[]⟩, (.slice ra4 (t.len + 1) rc4)]) rfl (by kernel_rfl) (by kernel_rfl) (by kernel_rfl) (fun _ _ _ h => h) (Or.inl ⟨by rfl, ?_⟩) (by assumption) ?_
                    · intro w' hSw; go_simp
                    (try simp only [Act.put, List.getElem_toArray, List.getElem_cons_zero, List.getElem_cons_succ, List.setIfInBounds_toArray, List.set_cons_zero, List.set_cons_succ])
                    refine wpAnyH_ready (rs := [8]) (by kernel_rfl) (by simp) (AllReadyH.cons rfl (fun K hK => ?_) AllReadyH.nil)
                    go_simp
                    have HST5 := Lib.hid (HST4.out.alloc (.cells #[.int .u8 0, .int .i64 0, .string ⟨#[]⟩, .slice none 0 0] 24))
                    refine hK.out _ _ HST5.out.ps (fun hHeld => ?_)
                    clear hK K
                    rename_i hOld
                    clear hOld
                    (try simp only [Act.put, List.getElem_toArray, List.getElem_cons_zero, List.getElem_cons_succ, List.setIfInBounds_toArray, List.set_cons_zero, List.set_cons_succ])
                    generalize hw : World.alloc v4 _ = v5 at hHeld HST5 ⊢
                    clear hw
                    obtain ⟨⟨z0, z1, z2, z3⟩, y0, y1, y2, y3⟩ := blk4 (HST5.out.blk (v4.heap.size, (.cells #[.int .u8 0, .int .i64 0, .string ⟨#[]⟩, .slice none 0 0] 24)) (by simp)).1
                    refine wpAnyH_ready (rs := [9]) (by kernel_rfl) (by simp) (AllReadyH.cons rfl (fun K hK => ?_) AllReadyH.nil)
                    go_simp
                    have HE := Lib.hid (HST5.out.put (Y := v4.heap.size) (by simp))
                    refine hK.out _ _ HE.out.ps (fun hHeld => ?_)
                    refine wpAnyH_done (by kernel_rfl) ?_ _
                    exact ⟨v0.heap.size, v1.heap.size, (.slice ra3 t.len rc3), (.slice ra4 (t.len + 1) rc4), v4.heap.size, by simp only [List.setIfInBounds_toArray, List.set_cons_zero, List.set_cons_succ], HE.out⟩
                  · skip
                    go_simp
                    have HST4 := Lib.hid (HST3.out.alloc (.cells #[.int .u8 0, .int .i64 0, .string ⟨#[]⟩, .slice none 0 0] 24))
                    refine hK.out _ _ HST4.out.ps (fun hHeld => ?_)
                    clear hK K
                    rename_i hOld
                    clear hOld
                    (try simp only [Act.put, List.getElem_toArray, List.getElem_cons_zero, List.getElem_cons_succ, List.setIfInBounds_toArray, List.set_cons_zero, List.set_cons_succ])
                    generalize hw : World.alloc v3 _ = v4 at hHeld HST4 ⊢
                    clear hw
                    refine wpAnyH_ready (rs := [6]) (by kernel_rfl) (by simp) (AllReadyH.cons rfl (fun K hK => ?_) AllReadyH.nil)
                    refine step_append_at rfl (.tmp 84) (.tmp 86) 22 rfl Wc.heap.size 24 i0 _ 4 56 Tryd.underlying22 hi hz0 hz1 hz2 rfl (by decide) (.slice ra3 t.len rc3) t.len (rowsTo t.kid x t.len) (by simp [Act.eval]) HST4.out.own ⟨v1.heap.size, 0, none⟩ 1 1 (rowsTo (fun _ => t) (fun _ => ((some (⟨kb, ko, none⟩ : Addr) : Option Addr), c)) 1) (by simp [Act.eval]) (rowsTo_len _ _ _) (src_cells (u := t) (x := ((some (⟨kb, ko, none⟩ : Addr) : Option Addr), c)) (HST4.out.blk (v1.heap.size, (.cells #[.int .u8 t.kind, .int .i64 t.num, .string t.name, .slice (some ⟨kb, ko, none⟩) t.len c] 24)) (by simp)).1) rowsTo_one (by unfold maxLen; omega) (by omega) HST4.out.ps.bel.size ?_
                    intro r5 v5 hown hgrow hplace
                    obtain ⟨ra5, rc5, rfl⟩ := own_slice hown
                    have HST5 := Lib.hid (HST4.out.grow hown hgrow hplace)
                    refine hK.out _ _ HST5.out.ps (fun hHeld => ?_)
                    clear hK K hown hgrow hplace
                    rename_i hOld
                    clear hOld
                    (try simp only [Act.put, List.getElem_toArray, List.getElem_cons_zero, List.getElem_cons_succ, List.setIfInBounds_toArray, List.set_cons_zero, List.set_cons_succ])
                    refine wpAnyH_take (i := 7) (v := .agg #[.int .u8 47, .int .i64 0, .string ⟨#[]⟩, (.slice ra5 (t.len + 1) rc5)]) rfl (by kernel_rfl) (by kernel_rfl) (by kernel_rfl) (fun _ _ _ h => h) (Or.inl ⟨by rfl, ?_⟩) (by assumption) ?_
                    · intro w' hSw; go_simp
                    (try simp only [Act.put, List.getElem_toArray, List.getElem_cons_zero, List.getElem_cons_succ, List.setIfInBounds_toArray, List.set_cons_zero, List.set_cons_succ])
                    obtain ⟨⟨z0, z1, z2, z3⟩, y0, y1, y2, y3⟩ := blk4 (HST5.out.blk (v3.heap.size, (.cells #[.int .u8 0, .int .i64 0, .string ⟨#[]⟩, .slice none 0 0] 24)) (by simp)).1
                    refine wpAnyH_ready (rs := [9]) (by kernel_rfl) (by simp) (AllReadyH.cons rfl (fun K hK => ?_) AllReadyH.nil)
                    go_simp
                    have HE := Lib.hid (HST5.out.put (Y := v3.heap.size) (by simp))
                    refine hK.out _ _ HE.out.ps (fun hHeld => ?_)
                    refine wpAnyH_done (by kernel_rfl) ?_ _
                    exact ⟨v0.heap.size, v1.heap.size, (.slice ra3 t.len rc3), (.slice ra5 (t.len + 1) rc5), v3.heap.size, by simp only [List.setIfInBounds_toArray, List.set_cons_zero, List.set_cons_succ], HE.out⟩
                · skip
                  go_simp
                  have HST3 := Lib.hid (HST2.out.alloc (.cells #[.int .u8 0, .int .i64 0, .string ⟨#[]⟩, .slice none 0 0] 24))
                  refine hK.out _ _ HST3.out.ps (fun hHeld => ?_)
                  clear hK K
                  rename_i hOld
                  clear hOld
                  (try simp only [Act.put, List.getElem_toArray, List.getElem_cons_zero, List.getElem_cons_succ, List.setIfInBounds_toArray, List.set_cons_zero, List.set_cons_succ])
                  generalize hw : World.alloc v2 _ = v3 at hHeld HST3 ⊢
                  clear hw
                  refine wpAnyH_ready (rs := [3]) (by kernel_rfl) (by simp) (AllReadyH.cons rfl (fun K hK => ?_) AllReadyH.nil)
                  refine step_append_at rfl (.tmp 81) (.tmp 83) 22 rfl Wc.heap.size 24 i0 _ 4 56 Tryd.underlying22 hi hz0 hz1 hz2 rfl (by decide) (.slice (some ⟨v0.heap.size, 0, none⟩) 0 0) 0 [] (by simp [Act.eval]) HST3.out.own ⟨kb, ko, none⟩ t.len c (rowsTo t.kid x t.len) (by simp [Act.eval]) (rowsTo_len _ _ _) (KC3.out _ HST3.out.ps) rowsTo_one (by unfold maxLen; omega) (by omega) HST3.out.ps.bel.size ?_
                  intro r4 v4 hown hgrow hplace
                  rw [Nat.zero_add, List.nil_append] at hown
                  obtain ⟨ra4, rc4, rfl⟩ := own_slice hown
                  have HST4 := Lib.hid (HST3.out.grow hown hgrow hplace)
                  refine hK.out _ _ HST4.out.ps (fun hHeld => ?_)
                  clear hK K hown hgrow hplace
                  rename_i hOld
                  clear hOld
                  (try simp only [Act.put, List.getElem_toArray, List.getElem_cons_zero, List.getElem_cons_succ, List.setIfInBounds_toArray, List.set_cons_zero, List.set_cons_succ])
                  refine wpAnyH_ready (rs := [6]) (by kernel_rfl) (by simp) (AllReadyH.cons rfl (fun K hK => ?_) AllReadyH.nil)
                  refine step_append_at rfl (.tmp 84) (.tmp 86) 22 rfl Wc.heap.size 24 i0 _ 4 56 Tryd.underlying22 hi hz0 hz1 hz2 rfl (by decide) (.slice ra4 t.len rc4) t.len (rowsTo t.kid x t.len) (by simp [Act.eval]) HST4.out.own ⟨v1.heap.size, 0, none⟩ 1 1 (rowsTo (fun _ => t) (fun _ => ((some (⟨kb, ko, none⟩ : Addr) : Option Addr), c)) 1) (by simp [Act.eval]) (rowsTo_len _ _ _) (src_cells (u := t) (x := ((some (⟨kb, ko, none⟩ : Addr) : Option Addr), c)) (HST4.out.blk (v1.heap.size, (.cells #[.int .u8 t.kind, .int .i64 t.num, .string t.name, .slice (some ⟨kb, ko, none⟩) t.len c] 24)) (by simp)).1) rowsTo_one (by unfold maxLen; omega) (by omega) HST4.out.ps.bel.size ?_
                  intro r5 v5 hown hgrow hplace
                  obtain ⟨ra5, rc5, rfl⟩ := own_slice hown
                  have HST5 := Lib.hid (HST4.out.grow hown hgrow hplace)
                  refine hK.out _ _ HST5.out.ps (fun hHeld => ?_)
                  clear hK K hown hgrow hplace
                  rename_i hOld
                  clear hOld
                  (try simp only [Act.put, List.getElem_toArray, List.getElem_cons_zero, List.getElem_cons_succ, List.setIfInBounds_toArray, List.set_cons_zero, List.set_cons_succ])
                  refine wpAnyH_take (i := 7) (v := .agg #[.int .u8 47, .int .i64 0, .string ⟨#[]⟩, (.slice ra5 (t.len + 1) rc5)]) rfl (by kernel_rfl) (by kernel_rfl) (by kernel_rfl) (fun _ _ _ h => h) (Or.inl ⟨by rfl, ?_⟩) (by assumption) ?_
                  · intro w' hSw; go_simp
                  (try simp only [Act.put, List.getElem_toArray, List.getElem_cons_zero, List.getElem_cons_succ, List.setIfInBounds_toArray, List.set_cons_zero, List.set_cons_succ])
                  obtain ⟨⟨z0, z1, z2, z3⟩, y0, y1, y2, y3⟩ := blk4 (HST5.out.blk (v2.heap.size, (.cells #[.int .u8 0, .int .i64 0, .string ⟨#[]⟩, .slice none 0 0] 24)) (by simp)).1
                  refine wpAnyH_ready (rs := [9]) (by kernel_rfl) (by simp) (AllReadyH.cons rfl (fun K hK => ?_) AllReadyH.nil)
                  go_simp
                  have HE := Lib.hid (HST5.out.put (Y := v2.heap.size) (by simp))
                  refine hK.out _ _ HE.out.ps (fun hHeld => ?_)
                  refine wpAnyH_done (by kernel_rfl) ?_ _
                  exact ⟨v0.heap.size, v1.heap.size, (.slice ra4 t.len rc4), (.slice ra5 (t.len + 1) rc5), v2.heap.size, by simp only [List.setIfInBounds_toArray, List.set_cons_zero, List.set_cons_succ], HE.out⟩
              · skip
                go_simp
                have HST2 := Lib.hid (HST1.out.alloc (.cells #[.int .u8 0, .int .i64 0, .string ⟨#[]⟩, .slice none 0 0] 24))
                refine hK.out _ _ HST2.out.ps (fun hHeld => ?_)
                clear hK K
                rename_i hOld
                clear hOld
                (try simp only [Act.put, List.getElem_toArray, List.getElem_cons_zero, List.getElem_cons_succ, List.setIfInBounds_toArray, List.set_cons_zero, List.set_cons_succ])
                generalize hw : World.alloc v1 _ = v2 at hHeld HST2 ⊢
                clear hw
                refine wpAnyH_ready (rs := [3, 5]) (by kernel_rfl) (by simp) (AllReadyH.cons rfl (fun K hK => ?_) (AllReadyH.cons rfl (fun K hK => ?_) AllReadyH.nil))
                · skip
                  refine step_append_at rfl (.tmp 81) (.tmp 83) 22 rfl Wc.heap.size 24 i0 _ 4 56 Tryd.underlying22 hi hz0 hz1 hz2 rfl (by decide) (.slice (some ⟨v0.heap.size, 0, none⟩) 0 0) 0 [] (by simp [Act.eval]) HST2.out.own ⟨kb, ko, none⟩ t.len c (rowsTo t.kid x t.len) (by simp [Act.eval]) (rowsTo_len _ _ _) (KC3.out _ HST2.out.ps) rowsTo_one (by unfold maxLen; omega) (by omega) HST2.out.ps.bel.size ?_
                  intro r3 v3 hown hgrow hplace
                  rw [Nat.zero_add, List.nil_append] at hown
                  obtain ⟨ra3, rc3, rfl⟩ := own_slice hown
                  have HST3 := Lib.hid (HST2.out.grow hown hgrow hplace)
                  refine hK.out _ _ HST3.out.ps (fun hHeld => ?_)
                  clear hK K hown hgrow hplace
                  rename_i hOld
                  clear hOld
                  (try simp only [Act.put, List.getElem_toArray, List.getElem_cons_zero, List.getElem_cons_succ, List.setIfInBounds_toArray, List.set_cons_zero, List.set_cons_succ])
                  refine wpAnyH_ready (rs := [5]) (by kernel_rfl) (by simp) (AllReadyH.cons rfl (fun K hK => ?_) AllReadyH.nil)
                  go_simp
                  have HST4 := Lib.hid (HST3.out.alloc (.cells #[.int .u8 t.kind, .int .i64 t.num, .string t.name, .slice (some ⟨kb, ko, none⟩) t.len c] 24))
                  refine hK.out _ _ HST4.out.ps (fun hHeld => ?_)
                  clear hK K
                  rename_i hOld
                  clear hOld
                  (try simp only [Act.put, List.getElem_toArray, List.getElem_cons_zero, List.getElem_cons_succ, List.setIfInBounds_toArray, List.set_cons_zero, List.set_cons_succ])
                  generalize hw : World.alloc v3 _ = v4 at hHeld HST4 ⊢
                  clear hw
                  refine wpAnyH_ready (rs := [6]) (by kernel_rfl) (by simp) (AllReadyH.cons rfl (fun K hK => ?_) AllReadyH.nil)
                  refine step_append_at rfl (.tmp 84) (.tmp 86) 22 rfl Wc.heap.size 24 i0 _ 4 56 Tryd.underlying22 hi hz0 hz1 hz2 rfl (by decide) (.slice ra3 t.len rc3) t.len (rowsTo t.kid x t.len) (by simp [Act.eval]) HST4.out.own ⟨v3.heap.size, 0, none⟩ 1 1 (rowsTo (fun _ => t) (fun _ => ((some (⟨kb, ko, none⟩ : Addr) : Option Addr), c)) 1) (by simp [Act.eval]) (rowsTo_len _ _ _) (src_cells (u := t) (x := ((some (⟨kb, ko, none⟩ : Addr) : Option Addr), c)) (HST4.out.blk (v3.heap.size, (.cells #[.int .u8 t.kind, .int .i64 t.num, .string t.name, .slice (some ⟨kb, ko, none⟩) t.len c] 24)) (by simp)).1) rowsTo_one (by unfold maxLen; omega) (by omega) HST4.out.ps.bel.size ?_
                  intro r5 v5 hown hgrow hplace
                  obtain ⟨ra5, rc5, rfl⟩ := own_slice hown
                  have HST5 := Lib.hid (HST4.out.grow hown hgrow hplace)
                  refine hK.out _ _ HST5.out.ps (fun hHeld => ?_)
                  clear hK K hown hgrow hplace
                  rename_i hOld
                  clear hOld
                  (try simp only [Act.put, List.getElem_toArray, List.getElem_cons_zero, List.getElem_cons_succ, List.setIfInBounds_toArray, List.set_cons_zero, List.set_cons_succ])
                  refine wpAnyH_take (i := 7) (v := .agg #[.int .u8 47, .int .i64 0, .string ⟨#[]⟩, (.slice ra5 (t.len + 1) rc5)]) rfl (by kernel_rfl) (by kernel_rfl) (by kernel_rfl) (fun _ _ _ h => h) (Or.inl ⟨by rfl, ?_⟩) (by assumption) ?_
                  · intro w' hSw; go_simp
                  (try simp only [Act.put, List.getElem_toArray, List.getElem_cons_zero, List.getElem_cons_succ, List.setIfInBounds_toArray, List.set_cons_zero, List.set_cons_succ])
                  obtain ⟨⟨z0, z1, z2, z3⟩, y0, y1, y2, y3⟩ := blk4 (HST5.out.blk (v1.heap.size, (.cells #[.int .u8 0, .int .i64 0, .string ⟨#[]⟩, .slice none 0 0] 24)) (by simp)).1
                  refine wpAnyH_ready (rs := [9]) (by kernel_rfl) (by simp) (AllReadyH.cons rfl (fun K hK => ?_) AllReadyH.nil)
                  go_simp
                  have HE := Lib.hid (HST5.out.put (Y := v1.heap.size) (by simp))
                  refine hK.out _ _ HE.out.ps (fun hHeld => ?_)
                  refine wpAnyH_done (by kernel_rfl) ?_ _
                  exact ⟨v0.heap.size, v3.heap.size, (.slice ra3 t.len rc3), (.slice ra5 (t.len + 1) rc5), v1.heap.size, by simp only [List.setIfInBounds_toArray, List.set_cons_zero, List.set_cons_succ], HE.out⟩
                · skip
                  go_simp
                  have HST3 := Lib.hid (HST2.out.alloc (.cells #[.int .u8 t.kind, .int .i64 t.num, .string t.name, .slice (some ⟨kb, ko, none⟩) t.len c] 24))
                  refine hK.out _ _ HST3.out.ps (fun hHeld => ?_)
                  clear hK K
                  rename_i hOld
                  clear hOld
                  (try simp only [Act.put, List.getElem_toArray, List.getElem_cons_zero, List.getElem_cons_succ, List.setIfInBounds_toArray, List.set_cons_zero, List.set_cons_succ])
                  generalize hw : World.alloc v2 _ = v3 at hHeld HST3 ⊢
                  clear hw
                  refine wpAnyH_ready (rs := [3]) (by kernel_rfl) (by simp) (AllReadyH.cons rfl (fun K hK => ?_) AllReadyH.nil)
                  refine step_append_at rfl (.tmp 81) (.tmp 83) 22 rfl Wc.heap.size 24 i0 _ 4 56 Tryd.underlying22 hi hz0 hz1 hz2 rfl (by decide) (.slice (some ⟨v0.heap.size, 0, none⟩) 0 0) 0 [] (by simp [Act.eval]) HST3.out.own ⟨kb, ko, none⟩ t.len c (rowsTo t.kid x t.len) (by simp [Act.eval]) (rowsTo_len _ _ _) (KC3.out _ HST3.out.ps) rowsTo_one (by unfold maxLen; omega) (by omega) HST3.out.ps.bel.size ?_
                  intro r4 v4 hown hgrow hplace
                  rw [Nat.zero_add, List.nil_append] at hown
                  obtain ⟨ra4, rc4, rfl⟩ := own_slice hown
                  have HST4 := Lib.hid (HST3.out.grow hown hgrow hplace)
                  refine hK.out _ _ HST4.out.ps (fun hHeld => ?_)
                  clear hK K hown hgrow hplace
                  rename_i hOld
                  clear hOld
                  (try simp only [Act.put, List.getElem_toArray, List.getElem_cons_zero, List.getElem_cons_succ, List.setIfInBounds_toArray, List.set_cons_zero, List.set_cons_succ])
                  refine wpAnyH_ready (rs := [6]) (by kernel_rfl) (by simp) (AllReadyH.cons rfl (fun K hK => ?_) AllReadyH.nil)
                  refine step_append_at rfl (.tmp 84) (.tmp 86) 22 rfl Wc.heap.size 24 i0 _ 4 56 Tryd.underlying22 hi hz0 hz1 hz2 rfl (by decide) (.slice ra4 t.len rc4) t.len (rowsTo t.kid x t.len) (by simp [Act.eval]) HST4.out.own ⟨v2.heap.size, 0, none⟩ 1 1 (rowsTo (fun _ => t) (fun _ => ((some (⟨kb, ko, none⟩ : Addr) : Option Addr), c)) 1) (by simp [Act.eval]) (rowsTo_len _ _ _) (src_cells (u := t) (x := ((some (⟨kb, ko, none⟩ : Addr) : Option Addr), c)) (HST4.out.blk (v2.heap.size, (.cells #[.int .u8 t.kind, .int .i64 t.num, .string t.name, .slice (some ⟨kb, ko, none⟩) t.len c] 24)) (by simp)).1) rowsTo_one (by unfold maxLen; omega) (by omega) HST4.out.ps.bel.size ?_
                  intro r5 v5 hown hgrow hplace
                  obtain ⟨ra5, rc5, rfl⟩ := own_slice hown
                  have HST5 := Lib.hid (HST4.out.grow hown hgrow hplace)
                  refine hK.out _ _ HST5.out.ps (fun hHeld => ?_)
                  clear hK K hown hgrow hplace
                  rename_i hOld
                  clear hOld
                  (try simp only [Act.put, List.getElem_toArray, List.getElem_cons_zero, List.getElem_cons_succ, List.setIfInBounds_toArray, List.set_cons_zero, List.set_cons_succ])
                  refine wpAnyH_take (i := 7) (v := .agg #[.int .u8 47, .int .i64 0, .string ⟨#[]⟩, (.slice ra5 (t.len + 1) rc5)]) rfl (by kernel_rfl) (by kernel_rfl) (by kernel_rfl) (fun _ _ _ h => h) (Or.inl ⟨by rfl, ?_⟩) (by assumption) ?_
                  · intro w' hSw; go_simp
                  (try simp only [Act.put, List.getElem_toArray, List.getElem_cons_zero, List.getElem_cons_succ, List.setIfInBounds_toArray, List.set_cons_zero, List.set_cons_succ])
                  obtain ⟨⟨z0, z1, z2, z3⟩, y0, y1, y2, y3⟩ := blk4 (HST5.out.blk (v1.heap.size, (.cells #[.int .u8 0, .int .i64 0, .string ⟨#[]⟩, .slice none 0 0] 24)) (by simp)).1
                  refine wpAnyH_ready (rs := [9]) (by kernel_rfl) (by simp) (AllReadyH.cons rfl (fun K hK => ?_) AllReadyH.nil)
                  go_simp
                  have HE := Lib.hid (HST5.out.put (Y := v1.heap.size) (by simp))
                  refine hK.out _ _ HE.out.ps (fun hHeld => ?_)
                  refine wpAnyH_done (by kernel_rfl) ?_ _
                  exact ⟨v0.heap.size, v2.heap.size, (.slice ra4 t.len rc4), (.slice ra5 (t.len + 1) rc5), v1.heap.size, by simp only [List.setIfInBounds_toArray, List.set_cons_zero, List.set_cons_succ], HE.out⟩
            · skip
              go_simp
              have HST1 := Lib.hid (HST0.out.alloc (.cells #[.int .u8 t.kind, .int .i64 t.num, .string t.name, .slice (some ⟨kb, ko, none⟩) t.len c] 24))
              refine hK.out _ _ HST1.out.ps (fun hHeld => ?_)
              clear hK K
              rename_i hOld
              clear hOld
              (try simp only [Act.put, List.getElem_toArray, List.getElem_cons_zero, List.getElem_cons_succ, List.setIfInBounds_toArray, List.set_cons_zero, List.set_cons_succ])
              generalize hw : World.alloc v0 _ = v1 at hHeld HST1 ⊢
              clear hw
              refine wpAnyH_ready (rs := [0, 8]) (by kernel_rfl) (by simp) (AllReadyH.cons rfl (fun K hK => ?_) (AllReadyH.cons rfl (fun K hK => ?_) AllReadyH.nil))
              · skip
                go_simp
                have HST2 := Lib.hid HST1.out.start
                refine hK.out _ _ HST2.out.ps (fun hHeld => ?_)
                clear hK K
                rename_i hOld
                clear hOld
                (try simp only [Act.put, List.getElem_toArray, List.getElem_cons_zero, List.getElem_cons_succ, List.setIfInBounds_toArray, List.set_cons_zero, List.set_cons_succ])
                generalize hw : World.alloc v1 _ = v2 at hHeld HST2 ⊢
                clear hw
                refine wpAnyH_ready (rs := [3, 8]) (by kernel_rfl) (by simp) (AllReadyH.cons rfl (fun K hK => ?_) (AllReadyH.cons rfl (fun K hK => ?_) AllReadyH.nil))
                · skip
                  refine step_append_at rfl (.tmp 81) (.tmp 83) 22 rfl Wc.heap.size 24 i0 _ 4 56 Tryd.underlying22 hi hz0 hz1 hz2 rfl (by decide) (.slice (some ⟨v1.heap.size, 0, none⟩) 0 0) 0 [] (by simp [Act.eval]) HST2.out.own ⟨kb, ko, none⟩ t.len c (rowsTo t.kid x t.len) (by simp [Act.eval]) (rowsTo_len _ _ _) (KC3.out _ HST2.out.ps) rowsTo_one (by unfold maxLen; omega) (by omega) HST2.out.ps.bel.size ?_
                  intro r3 v3 hown hgrow hplace
                  rw [Nat.zero_add, List.nil_append] at hown
                  obtain ⟨ra3, rc3, rfl⟩ := own_slice hown
                  have HST3 := Lib.hid (HST2.out.grow hown hgrow hplace)
                  refine hK.out _ _ HST3.out.ps (fun hHeld => ?_)
                  clear hK K hown hgrow hplace
                  rename_i hOld
                  clear hOld
                  (try simp only [Act.put, List.getElem_toArray, List.getElem_cons_zero, List.getElem_cons_succ, List.setIfInBounds_toArray, List.set_cons_zero, List.set_cons_succ])
                  refine wpAnyH_ready (rs := [6, 8]) (by kernel_rfl) (by simp) (AllReadyH.cons rfl (fun K hK => ?_) (AllReadyH.cons rfl (fun K hK => ?_) AllReadyH.nil))
                  · skip
                    refine step_append_at rfl (.tmp 84) (.tmp 86) 22 rfl Wc.heap.size 24 i0 _ 4 56 Tryd.underlying22 hi hz0 hz1 hz2 rfl (by decide) (.slice ra3 t.len rc3) t.len (rowsTo t.kid x t.len) (by simp [Act.eval]) HST3.out.own ⟨v0.heap.size, 0, none⟩ 1 1 (rowsTo (fun _ => t) (fun _ => ((some (⟨kb, ko, none⟩ : Addr) : Option Addr), c)) 1) (by simp [Act.eval]) (rowsTo_len _ _ _) (src_cells (u := t) (x := ((some (⟨kb, ko, none⟩ : Addr) : Option Addr), c)) (HST3.out.blk (v0.heap.size, (.cells #[.int .u8 t.kind, .int .i64 t.num, .string t.name, .slice (some ⟨kb, ko, none⟩) t.len c] 24)) (by simp)).1) rowsTo_one (by unfold maxLen; omega) (by omega) HST3.out.ps.bel.size ?_
                    intro r4 v4 hown hgrow hplace
                    obtain ⟨ra4, rc4, rfl⟩ := own_slice hown
                    have HST4 := Lib.hid (HST3.out.grow hown hgrow hplace)
                    refine hK.out _ _ HST4.out.ps (fun hHeld => ?_)
                    clear hK K hown hgrow hplace
                    rename_i hOld
                    clear hOld
                    (try simp only [Act.put, List.getElem_toArray, List.getElem_cons_zero, List.getElem_cons_succ, List.setIfInBounds_toArray, List.set_cons_zero, List.set_cons_succ])
                    refine wpAnyH_take (i := 7) (v := .agg #[.int .u8 47, .int .i64 0, .string ⟨#[]⟩, (.slice ra4 (t.len + 1) rc4)]) rfl (by kernel_rfl) (by kernel_rfl) (by kernel_rfl) (fun _ _ _ h => h) (Or.inl ⟨by rfl, ?_⟩) (by assumption) ?_
                    · intro w' hSw; go_simp
                    (try simp only [Act.put, List.getElem_toArray, List.getElem_cons_zero, List.getElem_cons_succ, List.setIfInBounds_toArray, List.set_cons_zero, List.set_cons_succ])
                    refine wpAnyH_ready (rs := [8]) (by kernel_rfl) (by simp) (AllReadyH.cons rfl (fun K hK => ?_) AllReadyH.nil)
                    go_simp
                    have HST5 := Lib.hid (HST4.out.alloc (.cells #[.int .u8 0, .int .i64 0, .string ⟨#[]⟩, .slice none 0 0] 24))
                    refine hK.out _ _ HST5.out.ps (fun hHeld => ?_)
                    clear hK K
                    rename_i hOld
                    clear hOld
                    (try simp only [Act.put, List.getElem_toArray, List.getElem_cons_zero, List.getElem_cons_succ, List.setIfInBounds_toArray, List.set_cons_zero, List.set_cons_succ])
                    generalize hw : World.alloc v4 _ = v5 at hHeld HST5 ⊢
                    clear hw
                    obtain ⟨⟨z0, z1, z2, z3⟩, y0, y1, y2, y3⟩ := blk4 (HST5.out.blk (v4.heap.size, (.cells #[.int .u8 0, .int .i64 0, .string ⟨#[]⟩, .slice none 0 0] 24)) (by simp)).1
                    refine wpAnyH_ready (rs := [9]) (by kernel_rfl) (by simp) (AllReadyH.cons rfl (fun K hK => ?_) AllReadyH.nil)
                    go_simp
                    have HE := Lib.hid (HST5.out.put (Y := v4.heap.size) (by simp))
                    refine hK.out _ _ HE.out.ps (fun hHeld => ?_)
                    refine wpAnyH_done (by kernel_rfl) ?_ _
                    exact ⟨v1.heap.size, v0.heap.size, (.slice ra3 t.len rc3), (.slice ra4 (t.len + 1) rc4), v4.heap.size, by simp only [List.setIfInBounds_toArray, List.set_cons_zero, List.set_cons_succ], HE.out⟩
                  · skip
                    go_simp
                    have HST4 := Lib.hid (HST3.out.alloc (.cells #[.int .u8 0, .int .i64 0, .string ⟨#[]⟩, .slice none 0 0] 24))
                    refine hK.out _ _ HST4.out.ps (fun hHeld => ?_)
                    clear hK K
                    rename_i hOld
                    clear hOld
                    (try simp only [Act.put, List.getElem_toArray, List.getElem_cons_zero, List.getElem_cons_succ, List.setIfInBounds_toArray, List.set_cons_zero, List.set_cons_succ])
                    generalize hw : World.alloc v3 _ = v4 at hHeld HST4 ⊢
                    clear hw
                    refine wpAnyH_ready (rs := [6]) (by kernel_rfl) (by simp) (AllReadyH.cons rfl (fun K hK => ?_) AllReadyH.nil)
                    refine step_append_at rfl (.tmp 84) (.tmp 86) 22 rfl Wc.heap.size 24 i0 _ 4 56 Tryd.underlying22 hi hz0 hz1 hz2 rfl (by decide) (.slice ra3 t.len rc3) t.len (rowsTo t.kid x t.len) (by simp [Act.eval]) HST4.out.own ⟨v0.heap.size, 0, none⟩ 1 1 (rowsTo (fun _ => t) (fun _ => ((some (⟨kb, ko, none⟩ : Addr) : Option Addr), c)) 1) (by simp [Act.eval]) (rowsTo_len _ _ _) (src_cells (u := t) (x := ((some (⟨kb, ko, none⟩ : Addr) : Option Addr), c)) (HST4.out.blk (v0.heap.size, (.cells #[.int .u8 t.kind, .int .i64 t.num, .string t.name, .slice (some ⟨kb, ko, none⟩) t.len c] 24)) (by simp)).1) rowsTo_one (by unfold maxLen; omega) (by omega) HST4.out.ps.bel.size ?_
                    intro r5 v5 hown hgrow hplace
                    obtain ⟨ra5, rc5, rfl⟩ := own_slice hown
                    have HST5 := Lib.hid (HST4.out.grow hown hgrow hplace)
                    refine hK.out _ _ HST5.out.ps (fun hHeld => ?_)
                    clear hK K hown hgrow hplace
                    rename_i hOld
                    clear hOld
                    (try simp only [Act.put, List.getElem_toArray, List.getElem_cons_zero, List.getElem_cons_succ, List.setIfInBounds_toArray, List.set_cons_zero, List.set_cons_succ])
                    refine wpAnyH_take (i := 7) (v := .agg #[.int .u8 47, .int .i64 0, .string ⟨#[]⟩, (.slice ra5 (t.len + 1) rc5)]) rfl (by kernel_rfl) (by kernel_rfl) (by kernel_rfl) (fun _ _ _ h => h) (Or.inl ⟨by rfl, ?_⟩) (by assumption) ?_
                    · intro w' hSw; go_simp
                    (try simp only [Act.put, List.getElem_toArray, List.getElem_cons_zero, List.getElem_cons_succ, List.setIfInBounds_toArray, List.set_cons_zero, List.set_cons_succ])
                    obtain ⟨⟨z0, z1, z2, z3⟩, y0, y1, y2, y3⟩ := blk4 (HST5.out.blk (v3.heap.size, (.cells #[.int .u8 0, .int .i64 0, .string ⟨#[]⟩, .slice none 0 0] 24)) (by simp)).1
                    refine wpAnyH_ready (rs := [9]) (by kernel_rfl) (by simp) (AllReadyH.cons rfl (fun K hK => ?_) AllReadyH.nil)
                    go_simp
                    have HE := Lib.hid (HST5.out.put (Y := v3.heap.size) (by simp))
                    refine hK.out _ _ HE.out.ps (fun hHeld => ?_)
                    refine wpAnyH_done (by kernel_rfl) ?_ _
                    exact ⟨v1.heap.size, v0.heap.size, (.slice ra3 t.len rc3), (.slice ra5 (t.len + 1) rc5), v3.heap.size, by simp only [List.setIfInBounds_toArray, List.set_cons_zero, List.set_cons_succ], HE.out⟩
                · skip
                  go_simp
                  have HST3 := Lib.hid (HST2.out.alloc (.cells #[.int .u8 0, .int .i64 0, .string ⟨#[]⟩, .slice none 0 0] 24))
                  refine hK.out _ _ HST3.out.ps (fun hHeld => ?_)
                  clear hK K
                  rename_i hOld
                  clear hOld
                  (try simp only [Act.put, List.getElem_toArray, List.getElem_cons_zero, List.getElem_cons_succ, List.setIfInBounds_toArray, List.set_cons_zero, List.set_cons_succ])
                  generalize hw : World.alloc v2 _ = v3 at hHeld HST3 ⊢
                  clear hw
                  refine wpAnyH_ready (rs := [3]) (by kernel_rfl) (by simp) (AllReadyH.cons rfl (fun K hK => ?_) AllReadyH.nil)
                  refine step_append_at rfl (.tmp 81) (.tmp 83) 22 rfl Wc.heap.size 24 i0 _ 4 56 Tryd.underlying22 hi hz0 hz1 hz2 rfl (by decide) (.slice (some ⟨v1.heap.size, 0, none⟩) 0 0) 0 [] (by simp [Act.eval]) HST3.out.own ⟨kb, ko, none⟩ t.len c (rowsTo t.kid x t.len) (by simp [Act.eval]) (rowsTo_len _ _ _) (KC3.out _ HST3.out.ps) rowsTo_one (by unfold maxLen; omega) (by omega) HST3.out.ps.bel.size ?_
                  intro r4 v4 hown hgrow hplace
                  rw [Nat.zero_add, List.nil_append] at hown
                  obtain ⟨ra4, rc4, rfl⟩ := own_slice hown
                  have HST4 := Lib.hid (HST3.out.grow hown hgrow hplace)
                  refine hK.out _ _ HST4.out.ps (fun hHeld => ?_)
                  clear hK K hown hgrow hplace
                  rename_i hOld
                  clear hOld
                  (try simp only [Act.put, List.getElem_toArray, List.getElem_cons_zero, List.getElem_cons_succ, List.setIfInBounds_toArray, List.set_cons_zero, List.set_cons_succ])
                  refine wpAnyH_ready (rs := [6]) (by kernel_rfl) (by simp) (AllReadyH.cons rfl (fun K hK => ?_) AllReadyH.nil)
                  refine step_append_at rfl (.tmp 84) (.tmp 86) 22 rfl Wc.heap.size 24 i0 _ 4 56 Tryd.underlying22 hi hz0 hz1 hz2 rfl (by decide) (.slice ra4 t.len rc4) t.len (rowsTo t.kid x t.len) (by simp [Act.eval]) HST4.out.own ⟨v0.heap.size, 0, none⟩ 1 1 (rowsTo (fun _ => t) (fun _ => ((some (⟨kb, ko, none⟩ : Addr) : Option Addr), c)) 1) (by simp [Act.eval]) (rowsTo_len _ _ _) (src_cells (u := t) (x := ((some (⟨kb, ko, none⟩ : Addr) : Option Addr), c)) (HST4.out.blk (v0.heap.size, (.cells #[.int .u8 t.kind, .int .i64 t.num, .string t.name, .slice (some ⟨kb, ko, none⟩) t.len c] 24)) (by simp)).1) rowsTo_one (by unfold maxLen; omega) (by omega) HST4.out.ps.bel.size ?_
                  intro r5 v5 hown hgrow hplace
                  obtain ⟨ra5, rc5, rfl⟩ := own_slice hown
                  have HST5 := Lib.hid (HST4.out.grow hown hgrow hplace)
                  refine hK.out _ _ HST5.out.ps (fun hHeld => ?_)
                  clear hK K hown hgrow hplace
                  rename_i hOld
                  clear hOld
                  (try simp only [Act.put, List.getElem_toArray, List.getElem_cons_zero, List.getElem_cons_succ, List.setIfInBounds_toArray, List.set_cons_zero, List.set_cons_succ])
                  refine wpAnyH_take (i := 7) (v := .agg #[.int .u8 47, .int .i64 0, .string ⟨#[]⟩, (.slice ra5 (t.len + 1) rc5)]) rfl (by kernel_rfl) (by kernel_rfl) (by kernel_rfl) (fun _ _ _ h => h) (Or.inl ⟨by rfl, ?_⟩) (by assumption) ?_
                  · intro w' hSw; go_simp
                  (try simp only [Act.put, List.getElem_toArray, List.getElem_cons_zero, List.getElem_cons_succ, List.setIfInBounds_toArray, List.set_cons_zero, List.set_cons_succ])
                  obtain ⟨⟨z0, z1, z2, z3⟩, y0, y1, y2, y3⟩ := blk4 (HST5.out.blk (v2.heap.size, (.cells #[.int .u8 0, .int .i64 0, .string ⟨#[]⟩, .slice none 0 0] 24)) (by simp)).1
                  refine wpAnyH_ready (rs := [9]) (by kernel_rfl) (by simp) (AllReadyH.cons rfl (fun K hK => ?_) AllReadyH.nil)
                  go_simp
                  have HE := Lib.hid (HST5.out.put (Y := v2.heap.size) (by simp))
                  refine hK.out _ _ HE.out.ps (fun hHeld => ?_)
                  refine wpAnyH_done (by kernel_rfl) ?_ _
                  exact ⟨v1.heap.size, v0.heap.size, (.slice ra4 t.len rc4), (.slice ra5 (t.len + 1) rc5), v2.heap.size, by simp only [List.setIfInBounds_toArray, List.set_cons_zero, List.set_cons_succ], HE.out⟩
              · skip
                go_simp
                have HST2 := Lib.hid (HST1.out.alloc (.cells #[.int .u8 0, .int .i64 0, .string ⟨#[]⟩, .slice none 0 0] 24))
                refine hK.out _ _ HST2.out.ps (fun hHeld => ?_)
                clear hK K
                rename_i hOld
                clear hOld
                (try simp only [Act.put, List.getElem_toArray, List.getElem_cons_zero, List.getElem_cons_succ, List.setIfInBounds_toArray, List.set_cons_zero, List.set_cons_succ])
                generalize hw : World.alloc v1 _ = v2 at hHeld HST2 ⊢
                clear hw
                refine wpAnyH_ready (rs := [0]) (by kernel_rfl) (by simp) (AllReadyH.cons rfl (fun K hK => ?_) AllReadyH.nil)
                go_simp
                have HST3 := Lib.hid HST2.out.start
                refine hK.out _ _ HST3.out.ps (fun hHeld => ?_)
                clear hK K
                rename_i hOld
                clear hOld
                (try simp only [Act.put, List.getElem_toArray, List.getElem_cons_zero, List.getElem_cons_succ, List.setIfInBounds_toArray, List.set_cons_zero, List.set_cons_succ])
                generalize hw : World.alloc v2 _ = v3 at hHeld HST3 ⊢
                clear hw
                refine wpAnyH_ready (rs := [3]) (by kernel_rfl) (by simp) (AllReadyH.cons rfl (fun K hK => ?_) AllReadyH.nil)
                refine step_append_at rfl (.tmp 81) (.tmp 83) 22 rfl Wc.heap.size 24 i0 _ 4 56 Tryd.underlying22 hi hz0 hz1 hz2 rfl (by decide) (.slice (some ⟨v2.heap.size, 0, none⟩) 0 0) 0 [] (by simp [Act.eval]) HST3.out.own ⟨kb, ko, none⟩ t.len c (rowsTo t.kid x t.len) (by simp [Act.eval]) (rowsTo_len _ _ _) (KC3.out _ HST3.out.ps) rowsTo_one (by unfold maxLen; omega) (by omega) HST3.out.ps.bel.size ?_
                intro r4 v4 hown hgrow hplace
                rw [Nat.zero_add, List.nil_append] at hown
                obtain ⟨ra4, rc4, rfl⟩ := own_slice hown
                have HST4 := Lib.hid (HST3.out.grow hown hgrow hplace)
                refine hK.out _ _ HST4.out.ps (fun hHeld => ?_)
                clear hK K hown hgrow hplace
                rename_i hOld
                clear hOld
                (try simp only [Act.put, List.getElem_toArray, List.getElem_cons_zero, List.getElem_cons_succ, List.setIfInBounds_toArray, List.set_cons_zero, List.set_cons_succ])
                refine wpAnyH_ready (rs := [6]) (by kernel_rfl) (by simp) (AllReadyH.cons rfl (fun K hK => ?_) AllReadyH.nil)
                refine step_append_at rfl (.tmp 84) (.tmp 86) 22 rfl Wc.heap.size 24 i0 _ 4 56 Tryd.underlying22 hi hz0 hz1 hz2 rfl (by decide) (.slice ra4 t.len rc4) t.len (rowsTo t.kid x t.len) (by simp [Act.eval]) HST4.out.own ⟨v0.heap.size, 0, none⟩ 1 1 (rowsTo (fun _ => t) (fun _ => ((some (⟨kb, ko, none⟩ : Addr) : Option Addr), c)) 1) (by simp [Act.eval]) (rowsTo_len _ _ _) (src_cells (u := t) (x := ((some (⟨kb, ko, none⟩ : Addr) : Option Addr), c)) (HST4.out.blk (v0.heap.size, (.cells #[.int .u8 t.kind, .int .i64 t.num, .string t.name, .slice (some ⟨kb, ko, none⟩) t.len c] 24)) (by simp)).1) rowsTo_one (by unfold maxLen; omega) (by omega) HST4.out.ps.bel.size ?_
                intro r5 v5 hown hgrow hplace
                obtain ⟨ra5, rc5, rfl⟩ := own_slice hown
                have HST5 := Lib.hid (HST4.out.grow hown hgrow hplace)
                refine hK.out _ _ HST5.out.ps (fun hHeld => ?_)
                clear hK K hown hgrow hplace
                rename_i hOld
                clear hOld
                (try simp only [Act.put, List.getElem_toArray, List.getElem_cons_zero, List.getElem_cons_succ, List.setIfInBounds_toArray, List.set_cons_zero, List.set_cons_succ])
                refine wpAnyH_take (i := 7) (v := .agg #[.int .u8 47, .int .i64 0, .string ⟨#[]⟩, (.slice ra5 (t.len + 1) rc5)]) rfl (by kernel_rfl) (by kernel_rfl) (by kernel_rfl) (fun _ _ _ h => h) (Or.inl ⟨by rfl, ?_⟩) (by assumption) ?_
                · intro w' hSw; go_simp
                (try simp only [Act.put, List.getElem_toArray, List.getElem_cons_zero, List.getElem_cons_succ, List.setIfInBounds_toArray, List.set_cons_zero, List.set_cons_succ])
                obtain ⟨⟨z0, z1, z2, z3⟩, y0, y1, y2, y3⟩ := blk4 (HST5.out.blk (v1.heap.size, (.cells #[.int .u8 0, .int .i64 0, .string ⟨#[]⟩, .slice none 0 0] 24)) (by simp)).1
                refine wpAnyH_ready (rs := [9]) (by kernel_rfl) (by simp) (AllReadyH.cons rfl (fun K hK => ?_) AllReadyH.nil)
                go_simp
                have HE := Lib.hid (HST5.out.put (Y := v1.heap.size) (by simp))
                refine hK.out _ _ HE.out.ps (fun hHeld => ?_)
                refine wpAnyH_done (by kernel_rfl) ?_ _
                exact ⟨v2.heap.size, v0.heap.size, (.slice ra4 t.len rc4), (.slice ra5 (t.len + 1) rc5), v1.heap.size, by simp only [List.setIfInBounds_toArray, List.set_cons_zero, List.set_cons_succ], HE.out⟩
            · skip
              go_simp
              have HST1 := Lib.hid (HST0.out.alloc (.cells #[.int .u8 0, .int .i64 0, .string ⟨#[]⟩, .slice none 0 0] 24))
              refine hK.out _ _ HST1.out.ps (fun hHeld => ?_)
              clear hK K
              rename_i hOld
              clear hOld
              (try simp only [Act.put, List.getElem_toArray, List.getElem_cons_zero, List.getElem_cons_succ, List.setIfInBounds_toArray, List.set_cons_zero, List.set_cons_succ])
              generalize hw : World.alloc v0 _ = v1 at hHeld HST1 ⊢
              clear hw
              refine wpAnyH_ready (rs := [0, 5]) (by kernel_rfl) (by simp) (AllReadyH.cons rfl (fun K hK => ?_) (AllReadyH.cons rfl (fun K hK => ?_) AllReadyH.nil))
              · skip
                go_simp
                have HST2 := Lib.hid HST1.out.start
                refine hK.out _ _ HST2.out.ps (fun hHeld => ?_)
                clear hK K
                rename_i hOld
                clear hOld
                (try simp only [Act.put, List.getElem_toArray, List.getElem_cons_zero, List.getElem_cons_succ, List.setIfInBounds_toArray, List.set_cons_zero, List.set_cons_succ])
                generalize hw : World.alloc v1 _ = v2 at hHeld HST2 ⊢
                clear hw
                refine wpAnyH_ready (rs := [3, 5]) (by kernel_rfl) (by simp) (AllReadyH.cons rfl (fun K hK => ?_) (AllReadyH.cons rfl (fun K hK => ?_) AllReadyH.nil))
                · skip
                  refine step_append_at rfl (.tmp 81) (.tmp 83) 22 rfl Wc.heap.size 24 i0 _ 4 56 Tryd.underlying22 hi hz0 hz1 hz2 rfl (by decide) (.slice (some ⟨v1.heap.size, 0, none⟩) 0 0) 0 [] (by simp [Act.eval]) HST2.out.own ⟨kb, ko, none⟩ t.len c (rowsTo t.kid x t.len) (by simp [Act.eval]) (rowsTo_len _ _ _) (KC3.out _ HST2.out.ps) rowsTo_one (by unfold maxLen; omega) (by omega) HST2.out.ps.bel.size ?_
                  intro r3 v3 hown hgrow hplace
                  rw [Nat.zero_add, List.nil_append] at hown
                  obtain ⟨ra3, rc3, rfl⟩ := own_slice hown
                  have HST3 := Lib.hid (HST2.out.grow hown hgrow hplace)
                  refine hK.out _ _ HST3.out.ps (fun hHeld => ?_)
                  clear hK K hown hgrow hplace
                  rename_i hOld
                  clear hOld
                  (try simp only [Act.put, List.getElem_toArray, List.getElem_cons_zero, List.getElem_cons_succ, List.setIfInBounds_toArray, List.set_cons_zero, List.set_cons_succ])
                  refine wpAnyH_ready (rs := [5]) (by kernel_rfl) (by simp) (AllReadyH.cons rfl (fun K hK => ?_) AllReadyH.nil)
                  go_simp
                  have HST4 := Lib.hid (HST3.out.alloc (.cells #[.int .u8 t.kind, .int .i64 t.num, .string t.name, .slice (some ⟨kb, ko, none⟩) t.len c] 24))
                  refine hK.out _ _ HST4.out.ps (fun hHeld => ?_)
                  clear hK K
                  rename_i hOld
                  clear hOld
                  (try simp only [Act.put, List.getElem_toArray, List.getElem_cons_zero, List.getElem_cons_succ, List.setIfInBounds_toArray, List.set_cons_zero, List.set_cons_succ])
                  generalize hw : World.alloc v3 _ = v4 at hHeld HST4 ⊢
                  clear hw
                  refine wpAnyH_ready (rs := [6]) (by kernel_rfl) (by simp) (AllReadyH.cons rfl (fun K hK => ?_) AllReadyH.nil)
                  refine step_append_at rfl (.tmp 84) (.tmp 86) 22 rfl Wc.heap.size 24 i0 _ 4 56 Tryd.underlying22 hi hz0 hz1 hz2 rfl (by decide) (.slice ra3 t.len rc3) t.len (rowsTo t.kid x t.len) (by simp [Act.eval]) HST4.out.own ⟨v3.heap.size, 0, none⟩ 1 1 (rowsTo (fun _ => t) (fun _ => ((some (⟨kb, ko, none⟩ : Addr) : Option Addr), c)) 1) (by simp [Act.eval]) (rowsTo_len _ _ _) (src_cells (u := t) (x := ((some (⟨kb, ko, none⟩ : Addr) : Option Addr), c)) (HST4.out.blk (v3.heap.size, (.cells #[.int .u8 t.kind, .int .i64 t.num, .string t.name, .slice (some ⟨kb, ko, none⟩) t.len c] 24)) (by simp)).1) rowsTo_one (by unfold maxLen; omega) (by omega) HST4.out.ps.bel.size ?_
                  intro r5 v5 hown hgrow hplace
                  obtain ⟨ra5, rc5, rfl⟩ := own_slice hown
                  have HST5 := Lib.hid (HST4.out.grow hown hgrow hplace)
                  refine hK.out _ _ HST5.out.ps (fun hHeld => ?_)
                  clear hK K hown hgrow hplace
                  rename_i hOld
                  clear hOld
                  (try simp only [Act.put, List.getElem_toArray, List.getElem_cons_zero, List.getElem_cons_succ, List.setIfInBounds_toArray, List.set_cons_zero, List.set_cons_succ])
                  refine wpAnyH_take (i := 7) (v := .agg #[.int .u8 47, .int .i64 0, .string ⟨#[]⟩, (.slice ra5 (t.len + 1) rc5)]) rfl (by kernel_rfl) (by kernel_rfl) (by kernel_rfl) (fun _ _ _ h => h) (Or.inl ⟨by rfl, ?_⟩) (by assumption) ?_
                  · intro w' hSw; go_simp
                  (try simp only [Act.put, List.getElem_toArray, List.getElem_cons_zero, List.getElem_cons_succ, List.setIfInBounds_toArray, List.set_cons_zero, List.set_cons_succ])
                  obtain ⟨⟨z0, z1, z2, z3⟩, y0, y1, y2, y3⟩ := blk4 (HST5.out.blk (v0.heap.size, (.cells #[.int .u8 0, .int .i64 0, .string ⟨#[]⟩, .slice none 0 0] 24)) (by simp)).1
                  refine wpAnyH_ready (rs := [9]) (by kernel_rfl) (by simp) (AllReadyH.cons rfl (fun K hK => ?_) AllReadyH.nil)
                  go_simp
                  have HE := Lib.hid (HST5.out.put (Y := v0.heap.size) (by simp))
                  refine hK.out _ _ HE.out.ps (fun hHeld => ?_)
                  refine wpAnyH_done (by kernel_rfl) ?_ _
                  exact ⟨v1.heap.size, v3.heap.size, (.slice ra3 t.len rc3), (.slice ra5 (t.len + 1) rc5), v0.heap.size, by simp only [List.setIfInBounds_toArray, List.set_cons_zero, List.set_cons_succ], HE.out⟩
                · skip
                  go_simp
                  have HST3 := Lib.hid (HST2.out.alloc (.cells #[.int .u8 t.kind, .int .i64 t.num, .string t.name, .slice (some ⟨kb, ko, none⟩) t.len c] 24))
                  refine hK.out _ _ HST3.out.ps (fun hHeld => ?_)
                  clear hK K
                  rename_i hOld
                  clear hOld
                  (try simp only [Act.put, List.getElem_toArray, List.getElem_cons_zero, List.getElem_cons_succ, List.setIfInBounds_toArray, List.set_cons_zero, List.set_cons_succ])
                  generalize hw : World.alloc v2 _ = v3 at hHeld HST3 ⊢
                  clear hw
                  refine wpAnyH_ready (rs := [3]) (by kernel_rfl) (by simp) (AllReadyH.cons rfl (fun K hK => ?_) AllReadyH.nil)
                  refine step_append_at rfl (.tmp 81) (.tmp 83) 22 rfl Wc.heap.size 24 i0 _ 4 56 Tryd.underlying22 hi hz0 hz1 hz2 rfl (by decide) (.slice (some ⟨v1.heap.size, 0, none⟩) 0 0) 0 [] (by simp [Act.eval]) HST3.out.own ⟨kb, ko, none⟩ t.len c (rowsTo t.kid x t.len) (by simp [Act.eval]) (rowsTo_len _ _ _) (KC3.out _ HST3.out.ps) rowsTo_one (by unfold maxLen; omega) (by omega) HST3.out.ps.bel.size ?_
                  intro r4 v4 hown hgrow hplace
                  rw [Nat.zero_add, List.nil_append] at hown
                  obtain ⟨ra4, rc4, rfl⟩ := own_slice hown
                  have HST4 := Lib.hid (HST3.out.grow hown hgrow hplace)
                  refine hK.out _ _ HST4.out.ps (fun hHeld => ?_)
                  clear hK K hown hgrow hplace
                  rename_i hOld
                  clear hOld
                  (try simp only [Act.put, List.getElem_toArray, List.getElem_cons_zero, List.getElem_cons_succ, List.setIfInBounds_toArray, List.set_cons_zero, List.set_cons_succ])
                  refine wpAnyH_ready (rs := [6]) (by kernel_rfl) (by simp) (AllReadyH.cons rfl (fun K hK => ?_) AllReadyH.nil)
                  refine step_append_at rfl (.tmp 84) (.tmp 86) 22 rfl Wc.heap.size 24 i0 _ 4 56 Tryd.underlying22 hi hz0 hz1 hz2 rfl (by decide) (.slice ra4 t.len rc4) t.len (rowsTo t.kid x t.len) (by simp [Act.eval]) HST4.out.own ⟨v2.heap.size, 0, none⟩ 1 1 (rowsTo (fun _ => t) (fun _ => ((some (⟨kb, ko, none⟩ : Addr) : Option Addr), c)) 1) (by simp [Act.eval]) (rowsTo_len _ _ _) (src_cells (u := t) (x := ((some (⟨kb, ko, none⟩ : Addr) : Option Addr), c)) (HST4.out.blk (v2.heap.size, (.cells #[.int .u8 t.kind, .int .i64 t.num, .string t.name, .slice (some ⟨kb, ko, none⟩) t.len c] 24)) (by simp)).1) rowsTo_one (by unfold maxLen; omega) (by omega) HST4.out.ps.bel.size ?_
                  intro r5 v5 hown hgrow hplace
                  obtain ⟨ra5, rc5, rfl⟩ := own_slice hown
                  have HST5 := Lib.hid (HST4.out.grow hown hgrow hplace)
                  refine hK.out _ _ HST5.out.ps (fun hHeld => ?_)
                  clear hK K hown hgrow hplace
                  rename_i hOld
                  clear hOld
                  (try simp only [Act.put, List.getElem_toArray, List.getElem_cons_zero, List.getElem_cons_succ, List.setIfInBounds_toArray, List.set_cons_zero, List.set_cons_succ])
                  refine wpAnyH_take (i := 7) (v := .agg #[.int .u8 47, .int .i64 0, .string ⟨#[]⟩, (.slice ra5 (t.len + 1) rc5)]) rfl (by kernel_rfl) (by kernel_rfl) (by kernel_rfl) (fun _ _ _ h => h) (Or.inl ⟨by rfl, ?_⟩) (by assumption) ?_
                  · intro w' hSw; go_simp
                  (try simp only [Act.put, List.getElem_toArray, List.getElem_cons_zero, List.getElem_cons_succ, List.setIfInBounds_toArray, List.set_cons_zero, List.set_cons_succ])
                  obtain ⟨⟨z0, z1, z2, z3⟩, y0, y1, y2, y3⟩ := blk4 (HST5.out.blk (v0.heap.size, (.cells #[.int .u8 0, .int .i64 0, .string ⟨#[]⟩, .slice none 0 0] 24)) (by simp)).1
                  refine wpAnyH_ready (rs := [9]) (by kernel_rfl) (by simp) (AllReadyH.cons rfl (fun K hK => ?_) AllReadyH.nil)
                  go_simp
                  have HE := Lib.hid (HST5.out.put (Y := v0.heap.size) (by simp))
                  refine hK.out _ _ HE.out.ps (fun hHeld => ?_)
                  refine wpAnyH_done (by kernel_rfl) ?_ _
                  exact ⟨v1.heap.size, v2.heap.size, (.slice ra4 t.len rc4), (.slice ra5 (t.len + 1) rc5), v0.heap.size, by simp only [List.setIfInBounds_toArray, List.set_cons_zero, List.set_cons_succ], HE.out⟩
              · skip
                go_simp
                have HST2 := Lib.hid (HST1.out.alloc (.cells #[.int .u8 t.kind, .int .i64 t.num, .string t.name, .slice (some ⟨kb, ko, none⟩) t.len c] 24))
                refine hK.out _ _ HST2.out.ps (fun hHeld => ?_)
                clear hK K
                rename_i hOld
                clear hOld
                (try simp only [Act.put, List.getElem_toArray, List.getElem_cons_zero, List.getElem_cons_succ, List.setIfInBounds_toArray, List.set_cons_zero, List.set_cons_succ])
                generalize hw : World.alloc v1 _ = v2 at hHeld HST2 ⊢
                clear hw
                refine wpAnyH_ready (rs := [0]) (by kernel_rfl) (by simp) (AllReadyH.cons rfl (fun K hK => ?_) AllReadyH.nil)
                go_simp
                have HST3 := Lib.hid HST2.out.start
                refine hK.out _ _ HST3.out.ps (fun hHeld => ?_)
                clear hK K
                rename_i hOld
                clear hOld
                (try simp only [Act.put, List.getElem_toArray, List.getElem_cons_zero, List.getElem_cons_succ, List.setIfInBounds_toArray, List.set_cons_zero, List.set_cons_succ])
                generalize hw : World.alloc v2 _ = v3 at hHeld HST3 ⊢
                clear hw
                refine wpAnyH_ready (rs := [3]) (by kernel_rfl) (by simp) (AllReadyH.cons rfl (fun K hK => ?_) AllReadyH.nil)
                refine step_append_at rfl (.tmp 81) (.tmp 83) 22 rfl Wc.heap.size 24 i0 _ 4 56 Tryd.underlying22 hi hz0 hz1 hz2 rfl (by decide) (.slice (some ⟨v2.heap.size, 0, none⟩) 0 0) 0 [] (by simp [Act.eval]) HST3.out.own ⟨kb, ko, none⟩ t.len c (rowsTo t.kid x t.len) (by simp [Act.eval]) (rowsTo_len _ _ _) (KC3.out _ HST3.out.ps) rowsTo_one (by unfold maxLen; omega) (by omega) HST3.out.ps.bel.size ?_
                intro r4 v4 hown hgrow hplace
                rw [Nat.zero_add, List.nil_append] at hown
                obtain ⟨ra4, rc4, rfl⟩ := own_slice hown
                have HST4 := Lib.hid (HST3.out.grow hown hgrow hplace)
                refine hK.out _ _ HST4.out.ps (fun hHeld => ?_)
                clear hK K hown hgrow hplace
                rename_i hOld
                clear hOld
                (try simp only [Act.put, List.getElem_toArray, List.getElem_cons_zero, List.getElem_cons_succ, List.setIfInBounds_toArray, List.set_cons_zero, List.set_cons_succ])
                refine wpAnyH_ready (rs := [6]) (by kernel_rfl) (by simp) (AllReadyH.cons rfl (fun K hK => ?_) AllReadyH.nil)
                refine step_append_at rfl (.tmp 84) (.tmp 86) 22 rfl Wc.heap.size 24 i0 _ 4 56 Tryd.underlying22 hi hz0 hz1 hz2 rfl (by decide) (.slice ra4 t.len rc4) t.len (rowsTo t.kid x t.len) (by simp [Act.eval]) HST4.out.own ⟨v1.heap.size, 0, none⟩ 1 1 (rowsTo (fun _ => t) (fun _ => ((some (⟨kb, ko, none⟩ : Addr) : Option Addr), c)) 1) (by simp [Act.eval]) (rowsTo_len _ _ _) (src_cells (u := t) (x := ((some (⟨kb, ko, none⟩ : Addr) : Option Addr), c)) (HST4.out.blk (v1.heap.size, (.cells #[.int .u8 t.kind, .int .i64 t.num, .string t.name, .slice (some ⟨kb, ko, none⟩) t.len c] 24)) (by simp)).1) rowsTo_one (by unfold maxLen; omega) (by omega) HST4.out.ps.bel.size ?_
                intro r5 v5 hown hgrow hplace
                obtain ⟨ra5, rc5, rfl⟩ := own_slice hown
                have HST5 := Lib.hid (HST4.out.grow hown hgrow hplace)
                refine hK.out _ _ HST5.out.ps (fun hHeld => ?_)
                clear hK K hown hgrow hplace
                rename_i hOld
                clear hOld
                (try simp only [Act.put, List.getElem_toArray, List.getElem_cons_zero, List.getElem_cons_succ, List.setIfInBounds_toArray, List.set_cons_zero, List.set_cons_succ])
                refine wpAnyH_take (i := 7) (v := .agg #[.int .u8 47, .int .i64 0, .string ⟨#[]⟩, (.slice ra5 (t.len + 1) rc5)]) rfl (by kernel_rfl) (by kernel_rfl) (by kernel_rfl) (fun _ _ _ h => h) (Or.inl ⟨by rfl, ?_⟩) (by assumption) ?_
                · intro w' hSw; go_simp
                (try simp only [Act.put, List.getElem_toArray, List.getElem_cons_zero, List.getElem_cons_succ, List.setIfInBounds_toArray, List.set_cons_zero, List.set_cons_succ])
                obtain ⟨⟨z0, z1, z2, z3⟩, y0, y1, y2, y3⟩ := blk4 (HST5.out.blk (v0.heap.size, (.cells #[.int .u8 0, .int .i64 0, .string ⟨#[]⟩, .slice none 0 0] 24)) (by simp)).1
                refine wpAnyH_ready (rs := [9]) (by kernel_rfl) (by simp) (AllReadyH.cons rfl (fun K hK => ?_) AllReadyH.nil)
                go_simp
                have HE := Lib.hid (HST5.out.put (Y := v0.heap.size) (by simp))
                refine hK.out _ _ HE.out.ps (fun hHeld => ?_)
                refine wpAnyH_done (by kernel_rfl) ?_ _
                exact ⟨v2.heap.size, v1.heap.size, (.slice ra4 t.len rc4), (.slice ra5 (t.len + 1) rc5), v0.heap.size, by simp only [List.setIfInBounds_toArray, List.set_cons_zero, List.set_cons_succ], HE.out⟩
          · rintro a' Wd ⟨g0'', g1'', s1'', s2'', Y3, rfl, hE3⟩
            simp only [List.setIfInBounds_toArray, List.set_cons_zero, List.set_cons_succ]
            have HE3 := Lib.hid hE3
            have hWd : Wc.heap.size ≤ Wd.heap.size := hE3.ps.bel.size
            clear hE3
            have HBb : Hid (Below w.heap.size w Wb) := HBW5.out.trans (HE1.out.ps.bel.mono (by omega))
            have HBc : Hid (Below w.heap.size w Wc) := HBb.out.trans (HE2.out.ps.bel.mono (by omega))
            have HBd : Hid (Below w.heap.size w Wd) := HBc.out.trans (HE3.out.ps.bel.mono (by omega))
            have HKV : Hid (∀ i, i < t.len → (t.kid i).vld 115 = true) := fun i hi => block_kids HV.out hi
            obtain ⟨a1, c1, rfl, hr1⟩ := less_rep (t := t) (x := x) (k := k) (m := m2) HE1.out.own (fun i hi => (HX.out i hi).2.below HBb.out) HM3.out (by omega)
            obtain ⟨a2, c2', rfl, hr2⟩ := more_rep (t := t) (u := t.kid k) (x := x) (y := x k) HE2.out.own (fun i hi => (HX.out i hi).2.below HBc.out) ((HX.out k hkl).2.below HBc.out) (by omega)
            obtain ⟨a3, c3, rfl, hr3⟩ := more_rep (t := t) (u := t) (x := x) (y := (some ⟨kb, ko, none⟩, c)) HE3.out.own (fun i hi => (HX.out i hi).2.below HBd.out) (HT.out.below HBd.out) (by omega)
            have HR1 := Lib.hid (hr1.below (HE2.out.ps.bel.trans (HE3.out.ps.bel.mono hWc)))
            have HR2 := Lib.hid (hr2.below HE3.out.ps.bel)
            have HR3 := Lib.hid hr3
            have HY1 : Hid (Wd.heap[Y1]? = _) := (HE3.out.ps.bel.block _ (by have := (Array.getElem?_eq_some_iff.1 HE1.out.new).1; omega)).trans ((HE2.out.ps.bel.block _ (Array.getElem?_eq_some_iff.1 HE1.out.new).1).trans HE1.out.new)
            have HY2 : Hid (Wd.heap[Y2]? = _) := (HE3.out.ps.bel.block _ (Array.getElem?_eq_some_iff.1 HE2.out.new).1).trans HE2.out.new
            have HY3 := Lib.hid HE3.out.new
            have HBWd : Hid (Below W.heap.size W Wd) := HE1.out.ps.bel.trans ((HE2.out.ps.bel.mono hWb).trans (HE3.out.ps.bel.mono (by omega)))
            have HRES2 : Hid (Wd.heap[w.heap.size + 1]? = some (.cells #[.bool false] 4)) := (HBWd.out.block _ (by omega)).trans HRES.out
            have HD2 : Hid (Wd.heap[w4.heap.size]? = some (.deferred (some []))) := (HBWd.out.block _ hzW).trans HD.out
            have V1 := Lib.hid (block_vld (n := k + m2) (f := lessF t k) (fun i hi => lessF_vld HKV.out HM3.out hi))
            have V2 := Lib.hid (block_vld (n := t.len + 1) (f := moreF t (t.kid k)) (fun i hi => moreF_vld HKV.out (HKV.out k hkl) hi))
            have V3 := Lib.hid (block_not (n := t.len + 1) (f := moreF t t) (i := t.len) (by omega) (by rw [moreF_last]; exact HV.out))
            clear hr1 hr2 hr3
            obtain ⟨⟨e0, e1, e2, e3⟩, _⟩ := blk4 HY1.out
            go_wp2_with fail
            refine (isBlock_any (Tree.make 47 0 ⟨#[]⟩ (k + m2) (lessF t k)) _ a1 c1 HR1.out (HG.out.below HBd.out)).mono ?_
            rintro e Wf ⟨he, hBf⟩
            rw [V1.out] at he
            subst he
            have HBf := Lib.hid hBf
            obtain ⟨⟨f0, f1, f2, f3⟩, _⟩ := blk4 ((hBf.block _ (Array.getElem?_eq_some_iff.1 HY2.out).1).trans HY2.out)
            clear hBf e0 e1 e2 e3
            go_wp2_with fail
            refine (isBlock_any (Tree.make 47 0 ⟨#[]⟩ (t.len + 1) (moreF t (t.kid k))) _ a2 c2' (HR2.out.below HBf.out) (HG.out.below (HBd.out.trans (HBf.out.mono HBd.out.size)))).mono ?_
            rintro e Wg ⟨he, hBg⟩
            rw [V2.out] at he
            subst he
            have HBg := Lib.hid (HBf.out.trans (hBg.mono HBf.out.size))
            clear hBg f0 f1 f2 f3
            obtain ⟨⟨e0, e1, e2, e3⟩, _⟩ := blk4 ((HBg.out.block _ (Array.getElem?_eq_some_iff.1 HY3.out).1).trans HY3.out)
            go_wp2_with fail
            refine (isBlock_any (Tree.make 47 0 ⟨#[]⟩ (t.len + 1) (moreF t t)) _ a3 c3 (HR3.out.below HBg.out) (HG.out.below (HBd.out.trans (HBg.out.mono HBd.out.size)))).mono ?_
            rintro e Wh ⟨he, hBh⟩
            rw [V3.out] at he
            subst he
            have HBh := Lib.hid (HBg.out.trans (hBh.mono HBg.out.size))
            clear hBh e0 e1 e2 e3
            have HRh : Hid (Wh.heap[w.heap.size + 1]? = some (.cells #[.bool false] 4)) := (HBh.out.block _ (Array.getElem?_eq_some_iff.1 HRES2.out).1).trans HRES2.out
            have HDh : Hid (Wh.heap[w4.heap.size]? = some (.deferred (some []))) := (HBh.out.block _ (Array.getElem?_eq_some_iff.1 HD2.out).1).trans HD2.out
            have r1 := cell_of_one HRh.out
            have r2 := free_of_one HRh.out
            go_wp2_with fail
            exact parts_end HRh.out HDh.out (HBd.out.trans (HBh.out.mono HBd.out.size)) (by omega)
end Go.Proofs.YtfkegjdgbnkicaaDoor
