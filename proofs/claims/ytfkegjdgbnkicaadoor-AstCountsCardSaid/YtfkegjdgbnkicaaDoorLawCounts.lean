/-
  The statement AstCounts, walked (package ontimelaw12), over the contract of awake.
-/
import Derived.Test.YtfkegjdgbnkicaaDoorAstWalk
import Derived.Test.YtfkegjdgbnkicaaDoorRangeWp
import Derived.Test.YtfkegjdgbnkicaaDoorLawKinds
import Derived.Test.YtfkegjdgbnkicaaDoorCounts
import Derived.Test.YtfkegjdgbnkicaaDoorAstAt
import Derived.Test.YtfkegjdgbnkicaaDoorAstEqual
import Derived.Test.YtfkegjdgbnkicaaDoorIsTask
import Derived.Test.YtfkegjdgbnkicaaDoorRoundBox
import Derived.Laws.EntriesVeiled
import Derived.WalkLawsBesides
import Derived.BigGuardIn
import Derived.BigRegionIn
import Derived.Deep.RegionHeld3
import Derived.IntWalk
namespace Go.Proofs.YtfkegjdgbnkicaaDoor
open Go.RowKit
set_option maxRecDepth 100000
attribute [local go_sem] Oper.semAt_some undef

/-- the three counters, at a block and the next two -/
structure CntIn (t : Tree) (a : Option Addr) (c N M : Nat) (pre : List (List Int × Tree)) (W : World) : Prop where
  n : W.heap[M]? = some (.cells #[.int .i64 (pre.length : Nat)] 3 (0, 0))
  l : W.heap[M + 1]? = some (.cells #[.int .i64 (maxOver (fun x => x.1.length) pre : Nat)] 3 (0, 0))
  k : W.heap[M + 1 + 1]? = some (.cells #[.int .i64 (maxOver (fun x => loopsOf t x.1) pre : Nat)] 3 (0, 0))
  box : W.heap[N]? = some (boxObj t a c)
  lt : N < M
  rep : RepIn (fun k => k < M) W t a
/-- what a round may turn -/
def CntO (M k : Nat) : Prop := k = M ∨ k = M + 1 ∨ k = M + 1 + 1
/-- the frame of a round -/
def CntM (M L : Nat) (T : Array Value) (x : List Int × Tree) (a' : Act) (W : World) : Prop :=
  ∃ v a c bx, a' = { tmps := (((T.setIfInBounds 19 v).setIfInBounds 20 (x.2.val a c)).setIfInBounds 6 v).setIfInBounds 7 (.pointer (some ⟨bx, 0, none⟩)), defers := [] } ∧
    PathIn (fun k => ¬ (CntO M k ∨ (L ≤ k ∧ k ≤ L + 1))) W v x.1 ∧ RepIn (fun k => ¬ (CntO M k ∨ (L ≤ k ∧ k ≤ L + 1))) W x.2 a ∧ W.heap[bx]? = some (boxObj x.2 a c) ∧ L + 2 ≤ bx
theorem CntIn.keep {t : Tree} {a : Option Addr} {c N M L : Nat} {pre : List (List Int × Tree)} {A B : World} (h : CntIn t a c N M pre A) (hL : M + 3 ≤ L) (hk : Keep (fun k => L ≤ k ∧ k ≤ L + 1) A B) : CntIn t a c N M pre B :=
  ⟨(hk.block M (fun h => by have := h.1; omega) (Array.getElem?_eq_some_iff.1 h.n).1).trans h.n, (hk.block (M + 1) (fun h => by have := h.1; omega) (Array.getElem?_eq_some_iff.1 h.l).1).trans h.l, (hk.block (M + 1 + 1) (fun h => by have := h.1; omega) (Array.getElem?_eq_some_iff.1 h.k).1).trans h.k,
   (hk.block N (fun q => by have := q.1; have := h.lt; omega) (Array.getElem?_eq_some_iff.1 h.box).1).trans h.box, h.lt, h.rep.move (fun k hS hl => hk.block k (fun q => by have := q.1; omega) hl) (fun _ h _ => h)⟩
theorem CntM.keep {M L : Nat} {T : Array Value} {x : List Int × Tree} {a' : Act} {A B : World} (h : CntM M L T x a' A) (hk : Keep (fun k => L ≤ k ∧ k ≤ L + 1) A B) : CntM M L T x a' B := by
  obtain ⟨v, a, c, bx, h1, h2, h3, h4, h5⟩ := h
  exact ⟨v, a, c, bx, h1, h2.move hk.size (fun k hS hl => hk.block k (fun h => hS (.inr h)) hl) (fun _ h _ => h), h3.move (fun k hS hl => hk.block k (fun h => hS (.inr h)) hl) (fun _ h _ => h),
    (hk.block bx (fun h => by have := h.2; omega) (Array.getElem?_eq_some_iff.1 h4).1).trans h4, h5⟩
theorem mem_of_prefix {α : Type} {pre l : List α} {x : α} (h : pre ++ [x] <+: l) : x ∈ l := by
  obtain ⟨r, rfl⟩ := h; simp

/-- a new box -/
abbrev zeroObj : Obj := .cells #[.int .u8 0, .int .i64 0, .string ⟨#[]⟩, .slice none 0 0] 24
theorem zero_heap {wr w6 : World} (h : Below (wr.alloc zeroObj).drew.heap.size (wr.alloc zeroObj).drew w6) : w6.heap[wr.heap.size]? = some zeroObj :=
  (h.block _ (by show wr.heap.size < (wr.alloc zeroObj).heap.size; simp)).trans (World.alloc_heap_new wr _)
theorem zero_box {wr w6 : World} (h : Below (wr.alloc zeroObj).drew.heap.size (wr.alloc zeroObj).drew w6) :
    (w6.cell? ⟨wr.heap.size, 0, none⟩ = some (.int .u8 0) ∧ w6.cell? ⟨wr.heap.size, 1, none⟩ = some (.int .i64 0) ∧ w6.cell? ⟨wr.heap.size, 2, none⟩ = some (.string ⟨#[]⟩) ∧ w6.cell? ⟨wr.heap.size, 3, none⟩ = some (.slice none 0 0)) ∧
    w6.frozen? ⟨wr.heap.size, 0, none⟩ = false ∧ w6.frozen? ⟨wr.heap.size, 1, none⟩ = false ∧ w6.frozen? ⟨wr.heap.size, 2, none⟩ = false ∧ w6.frozen? ⟨wr.heap.size, 3, none⟩ = false := blk4 (zero_heap h)
/-- what At gave, in a box -/
def AtBox (wr : World) (u : Tree) (v10 v11 : Value) (w' : World) : Prop :=
  ∃ bb a6 c6, v10 = .pointer (some ⟨bb, 0, none⟩) ∧ v11 = .bool true ∧ w'.heap[bb]? = some (boxObj u a6 c6) ∧ Rep w' u a6 ∧ Below wr.heap.size wr w'
theorem two_heap0 {w : World} {o o' : Obj} : ((w.alloc o).alloc o').heap[w.heap.size]? = some o := by
  rw [Below.heap_alloc _ _ _ (by simp)]; exact World.alloc_heap_new w _

theorem lp_le (t : Tree) : lp t ≤ 1 := by unfold lp; split <;> omega
theorem sumLp_le (t : Tree) (p : List Int) (k : Nat) : Tree.sumTo (lpAt t p) k ≤ k := by
  induction k with
  | zero => exact Nat.le_refl _
  | succ k ih =>
    have h : lpAt t p k ≤ 1 := by
      unfold lpAt
      cases t.at (p.take k) with
      | none => exact Nat.zero_le _
      | some u => exact lp_le u
    rw [Tree.sumTo_succ]; omega
theorem cnt_rel {t u : Tree} {p : List Int} {k s0 : Nat} {W5 w' : World} {v : Int} (hk : k ≤ p.length) (h1 : Tree.sumTo (lpAt t p) (k + 1) = s0 + lpAt t p k) (h3 : lpAt t p k = lp u) (hB : Below W5.heap.size W5 w') (hv : v = s0 + lp u) :
    (∃ k_1 : Nat, k_1 ≤ p.length + 1 ∧ Value.int IntKind.i64 ((k : Int) + 1) = Value.int IntKind.i64 k_1 ∧ Value.int IntKind.i64 v = Value.int IntKind.i64 (Tree.sumTo (lpAt t p) k_1 : Nat) ∧ Below W5.heap.size W5 w') ∧
      p.length + 1 - (intOf (Value.int IntKind.i64 ((k : Int) + 1))).toNat < p.length + 1 - (intOf (Value.int IntKind.i64 k)).toNat := by
  refine ⟨⟨k + 1, by omega, by simp, ?_, hB⟩, by simp only [intOf]; omega⟩
  rw [h1, h3, hv]
  simp
theorem cnt_keep {M : Nat} {W W5 wr : World} {v : Value} (h5 : Keep (CntO M) W W5) (h6 : Below W5.heap.size W5 wr) : Keep (CntO M) W (wr.setCell ⟨M + 1 + 1, 0, none⟩ v) :=
  Keep.setCell ⟨h6.os.trans h5.os, h6.tape.trans h5.tape, h6.output.trans h5.output, Nat.le_trans h5.size h6.size, fun k hk hl => (h6.block k (Nat.lt_of_lt_of_le hl h5.size)).trans (h5.block k hk hl)⟩ (.inr (.inr rfl)) v
theorem cnt_next {t : Tree} {a : Option Addr} {c N M s0 : Nat} {pre : List (List Int × Tree)} {x : List Int × Tree} {W W5 wr : World} {v : Int} (hI : CntIn t a c N M pre W)
    (hn : W5.heap[M]? = some (.cells #[.int .i64 ((pre.length : Int) + 1)] 3 (0, 0)))
    (hl : W5.heap[M + 1]? = some (.cells #[.int .i64 (max ((maxOver (fun x => x.1.length) pre : Nat) : Int) (x.1.length : Nat))] 3 (0, 0)))
    (hk : wr.heap[M + 1 + 1]? = some (.cells #[.int .i64 (maxOver (fun x => loopsOf t x.1) pre : Nat)] 3 (0, 0)))
    (h6 : Below W5.heap.size W5 wr) (hs : Tree.sumTo (lpAt t x.1) (x.1.length + 1) = s0) (h5 : Keep (CntO M) W W5) (hv : v = max ((maxOver (fun x => loopsOf t x.1) pre : Nat) : Int) (s0 : Nat) := by rfl) :
    CntIn t a c N M (pre ++ [x]) (wr.setCell ⟨M + 1 + 1, 0, none⟩ (.int .i64 v)) := by
  have hN : N < W.heap.size := (Array.getElem?_eq_some_iff.1 hI.box).1
  have hlt := hI.lt
  refine ⟨?_, ?_, ?_, ?_, hI.lt, ?_⟩
  · refine (Below.heap_setCell _ _ _ _ (by show M ≠ M + 1 + 1; omega)).trans ((h6.block _ (Array.getElem?_eq_some_iff.1 hn).1).trans (hn.trans ?_))
    rw [List.length_append]; simp
  · refine (Below.heap_setCell _ _ _ _ (by show M + 1 ≠ M + 1 + 1; omega)).trans ((h6.block _ (Array.getElem?_eq_some_iff.1 hl).1).trans (hl.trans ?_))
    rw [maxOver_snoc]; congr 5; omega
  · rw [one_setCell hk, maxOver_snoc, hv, ← hs]
    congr 5
    show max _ _ = ((max _ (loopsOf t x.1) : Nat) : Int)
    unfold loopsOf
    omega
  · refine (Below.heap_setCell _ _ _ _ (by show N ≠ M + 1 + 1; omega)).trans ((h6.block _ (Nat.lt_of_lt_of_le hN h5.size)).trans ((h5.block N (by rintro (h | h | h) <;> omega) hN).trans hI.box))
  · exact hI.rep.move (fun k hk hl => (Below.heap_setCell _ _ _ _ (by show k ≠ M + 1 + 1; omega)).trans ((h6.block _ (Nat.lt_of_lt_of_le hl h5.size)).trans (h5.block k (by rintro (h | h | h) <;> omega) hl))) (fun _ h _ => h)
theorem cntS_next {t : Tree} {a : Option Addr} {c d N M D : Nat} {w w' w'' : World} (hN : N = w.heap.size) (h : w'.cell? ⟨N, 0, none⟩ = some (.int .u8 t.kind) ∧ w'.cell? ⟨N, 1, none⟩ = some (.int .i64 t.num) ∧ w'.cell? ⟨N, 2, none⟩ = some (.string t.name) ∧ w'.cell? ⟨N, 3, none⟩ = some (.slice a t.len c) ∧ w'.cell? ⟨M, 0, none⟩ = some (.int .i64 (t.size : Nat)) ∧ w'.cell? ⟨M + 1, 0, none⟩ = some (.int .i64 (d : Nat)) ∧ w'.cell? ⟨M + 1 + 1, 0, none⟩ = some (.int .i64 (t.nest : Nat)) ∧ w'.heap[D]? = some (.deferred (some [])) ∧ Below N w w') (hB : Below w'.heap.size w' w'') : w''.cell? ⟨N, 0, none⟩ = some (.int .u8 t.kind) ∧ w''.cell? ⟨N, 1, none⟩ = some (.int .i64 t.num) ∧ w''.cell? ⟨N, 2, none⟩ = some (.string t.name) ∧ w''.cell? ⟨N, 3, none⟩ = some (.slice a t.len c) ∧ w''.cell? ⟨M, 0, none⟩ = some (.int .i64 (t.size : Nat)) ∧ w''.cell? ⟨M + 1, 0, none⟩ = some (.int .i64 (d : Nat)) ∧ w''.cell? ⟨M + 1 + 1, 0, none⟩ = some (.int .i64 (t.nest : Nat)) ∧ w''.heap[D]? = some (.deferred (some [])) ∧ Below N w w'' := by
  obtain ⟨h0, h1, h2, h3, h4, h5, h6, h7, h8⟩ := h
  exact ⟨cell_below hB h0, cell_below hB h1, cell_below hB h2, cell_below hB h3, cell_below hB h4, cell_below hB h5, cell_below hB h6, (hB.block _ (Array.getElem?_eq_some_iff.1 h7).1).trans h7, h8.trans (hB.mono (by rw [hN]; rw [hN] at h8; exact h8.size))⟩
theorem cntS_bel {t : Tree} {a : Option Addr} {c d N M D : Nat} {w w' : World} (h : w'.cell? ⟨N, 0, none⟩ = some (.int .u8 t.kind) ∧ w'.cell? ⟨N, 1, none⟩ = some (.int .i64 t.num) ∧ w'.cell? ⟨N, 2, none⟩ = some (.string t.name) ∧ w'.cell? ⟨N, 3, none⟩ = some (.slice a t.len c) ∧ w'.cell? ⟨M, 0, none⟩ = some (.int .i64 (t.size : Nat)) ∧ w'.cell? ⟨M + 1, 0, none⟩ = some (.int .i64 (d : Nat)) ∧ w'.cell? ⟨M + 1 + 1, 0, none⟩ = some (.int .i64 (t.nest : Nat)) ∧ w'.heap[D]? = some (.deferred (some [])) ∧ Below N w w') : Below N w w' := h.2.2.2.2.2.2.2.2
theorem res_below {w w' : World} {b o : Nat} {v : Value} (hB : Below w.heap.size w w') (h : w.cell? ⟨b, o, none⟩ = some v) (hf : w.frozen? ⟨b, o, none⟩ = false) : w'.cell? ⟨b, o, none⟩ = some v ∧ w'.frozen? ⟨b, o, none⟩ = false :=
  ⟨cell_below hB h, (hB.frozen (p := ⟨b, o, none⟩) (World.block_lt_of_cell? w _ h)).trans hf⟩
theorem cntS_drew {t : Tree} {a : Option Addr} {c d N M D : Nat} {w w' : World} (h : w'.cell? ⟨N, 0, none⟩ = some (.int .u8 t.kind) ∧ w'.cell? ⟨N, 1, none⟩ = some (.int .i64 t.num) ∧ w'.cell? ⟨N, 2, none⟩ = some (.string t.name) ∧ w'.cell? ⟨N, 3, none⟩ = some (.slice a t.len c) ∧ w'.cell? ⟨M, 0, none⟩ = some (.int .i64 (t.size : Nat)) ∧ w'.cell? ⟨M + 1, 0, none⟩ = some (.int .i64 (d : Nat)) ∧ w'.cell? ⟨M + 1 + 1, 0, none⟩ = some (.int .i64 (t.nest : Nat)) ∧ w'.heap[D]? = some (.deferred (some [])) ∧ Below N w w') : w'.drew.cell? ⟨N, 0, none⟩ = some (.int .u8 t.kind) ∧ w'.drew.cell? ⟨N, 1, none⟩ = some (.int .i64 t.num) ∧ w'.drew.cell? ⟨N, 2, none⟩ = some (.string t.name) ∧ w'.drew.cell? ⟨N, 3, none⟩ = some (.slice a t.len c) ∧ w'.drew.cell? ⟨M, 0, none⟩ = some (.int .i64 (t.size : Nat)) ∧ w'.drew.cell? ⟨M + 1, 0, none⟩ = some (.int .i64 (d : Nat)) ∧ w'.drew.cell? ⟨M + 1 + 1, 0, none⟩ = some (.int .i64 (t.nest : Nat)) ∧ w'.drew.heap[D]? = some (.deferred (some [])) ∧ Below N w w'.drew :=
  ⟨h.1, h.2.1, h.2.2.1, h.2.2.2.1, h.2.2.2.2.1, h.2.2.2.2.2.1, h.2.2.2.2.2.2.1, h.2.2.2.2.2.2.2.1, h.2.2.2.2.2.2.2.2.drew⟩
theorem cntS_put {t : Tree} {a : Option Addr} {c d N M D : Nat} {w w' : World} {v : Value} (h : w'.cell? ⟨N, 0, none⟩ = some (.int .u8 t.kind) ∧ w'.cell? ⟨N, 1, none⟩ = some (.int .i64 t.num) ∧ w'.cell? ⟨N, 2, none⟩ = some (.string t.name) ∧ w'.cell? ⟨N, 3, none⟩ = some (.slice a t.len c) ∧ w'.cell? ⟨M, 0, none⟩ = some (.int .i64 (t.size : Nat)) ∧ w'.cell? ⟨M + 1, 0, none⟩ = some (.int .i64 (d : Nat)) ∧ w'.cell? ⟨M + 1 + 1, 0, none⟩ = some (.int .i64 (t.nest : Nat)) ∧ w'.heap[D]? = some (.deferred (some [])) ∧ Below N w w') (hM : N + 1 < M) (hD : N + 1 < D) : (w'.setCell ⟨N + 1, 0, none⟩ v).cell? ⟨N, 0, none⟩ = some (.int .u8 t.kind) ∧ (w'.setCell ⟨N + 1, 0, none⟩ v).cell? ⟨N, 1, none⟩ = some (.int .i64 t.num) ∧ (w'.setCell ⟨N + 1, 0, none⟩ v).cell? ⟨N, 2, none⟩ = some (.string t.name) ∧ (w'.setCell ⟨N + 1, 0, none⟩ v).cell? ⟨N, 3, none⟩ = some (.slice a t.len c) ∧ (w'.setCell ⟨N + 1, 0, none⟩ v).cell? ⟨M, 0, none⟩ = some (.int .i64 (t.size : Nat)) ∧ (w'.setCell ⟨N + 1, 0, none⟩ v).cell? ⟨M + 1, 0, none⟩ = some (.int .i64 (d : Nat)) ∧ (w'.setCell ⟨N + 1, 0, none⟩ v).cell? ⟨M + 1 + 1, 0, none⟩ = some (.int .i64 (t.nest : Nat)) ∧ (w'.setCell ⟨N + 1, 0, none⟩ v).heap[D]? = some (.deferred (some [])) ∧ Below N w (w'.setCell ⟨N + 1, 0, none⟩ v) := by
  obtain ⟨h0, h1, h2, h3, h4, h5, h6, h7, h8⟩ := h
  have hc : ∀ {b o : Nat} {u : Value}, b ≠ N + 1 → w'.cell? ⟨b, o, none⟩ = some u → (w'.setCell ⟨N + 1, 0, none⟩ v).cell? ⟨b, o, none⟩ = some u := fun hb h => (World.cell?_of_block (a := ⟨_, _, none⟩) (Below.heap_setCell _ _ _ _ hb)).trans h
  exact ⟨hc (by omega) h0, hc (by omega) h1, hc (by omega) h2, hc (by omega) h3, hc (by omega) h4, hc (by omega) h5, hc (by omega) h6, (Below.heap_setCell _ _ _ _ (by show D ≠ N + 1; omega)).trans h7, h8.setCell (by show N ≤ N + 1; omega) _⟩
/-- what region 15 keeps -/
structure AtS (t : Tree) (a : Option Addr) (c N : Nat) (wr w' : World) : Prop where
  box : w'.heap[N]? = some (boxObj t a c)
  bel : Below wr.heap.size wr w'
theorem AtS.next {t : Tree} {a : Option Addr} {c N : Nat} {wr w1 w2 : World} (h : AtS t a c N wr w1) (hB : Below w1.heap.size w1 w2) : AtS t a c N wr w2 :=
  ⟨(hB.block _ (Array.getElem?_eq_some_iff.1 h.box).1).trans h.box, h.bel.trans (hB.mono h.bel.size)⟩
theorem AtS.put {t : Tree} {a : Option Addr} {c N : Nat} {wr w1 : World} {v0 v1 v2 v3 : Value} (h : AtS t a c N wr w1) (hN : N < wr.heap.size) : AtS t a c N wr (set4 w1 wr.heap.size v0 v1 v2 v3) :=
  ⟨(set4_other (by omega)).trans h.box, set4_below h.bel (Nat.le_refl _)⟩
/-- what region 15 leaves -/
def AtR (wr : World) (T : Array Value) (tv pv kv sv : Value) (u : Tree) (a' : Act) (w' : World) : Prop :=
  ∃ bb a6 c6, a' = { tmps := (((((((((T.setIfInBounds 34 tv).setIfInBounds 35 pv).setIfInBounds 36 kv).setIfInBounds 37 sv).setIfInBounds 38 (.tuple #[u.val a6 c6, .bool true])).setIfInBounds 33 (.tuple #[u.val a6 c6, .bool true])).setIfInBounds 39 (u.val a6 c6)).setIfInBounds 40 (.bool true)).setIfInBounds 10 (.pointer (some ⟨bb, 0, none⟩))).setIfInBounds 11 (.bool true), defers := [] } ∧
    w'.heap[bb]? = some (boxObj u a6 c6) ∧ Rep w' u a6 ∧ Below wr.heap.size wr w' ∧ wr.heap.size ≤ bb

set_option maxHeartbeats 40000000 in
theorem astCounts_of (HW : AwakeAt) (t : Tree) (w : World) (a : Option Addr) (c : Nat) (ht : Rep w t a) (hg : SignsIn w) :
    Calls Tryd.prog 10 #[t.val a c] w fun e w' => e = .returned (.bool true) ∧ Below w.heap.size w w' := by
  have HT := Lib.hid ht
  have HG := Lib.hid hg
  clear ht hg
  have HB0 : Hid (Below (w.heap.size + 1 + 1) ((w.alloc (boxObj t a c)).alloc (.cells #[.bool false] 4)) ((w.alloc (boxObj t a c)).alloc (.cells #[.bool false] 4))) := Below.refl _ _
  refine (callsIn_wide (n := 0)).1 (callsIn_of_wp_marks Tryd.func10 rfl trivial ?_ rfl)
  refine wpIn_wide.2 ?_
  simp only [Tryd.ntmps10, List.size_toArray, List.length_cons, List.length_nil, Nat.reduceAdd, Nat.reduceSub, Array.replicate_succ, Array.replicate_zero, List.push_toArray, List.append_toArray, List.nil_append, List.cons_append]
  go_wp2_with fail
  refine (HW _ (HG.out.below two_alloc)).mono ?_
  rintro e w1 ⟨rfl, hB1⟩
  have HB1 := Lib.hid (HB0.out.trans (hB1.mono (by simp)))
  have f0 : w1.cell? ⟨w.heap.size, 0, none⟩ = some (.int .u8 t.kind) := (HB1.out.cell (p := ⟨w.heap.size, 0, none⟩) (by show w.heap.size < _; omega)).trans (by simp [World.cell?_alloc_lt])
  have f1 : w1.cell? ⟨w.heap.size, 1, none⟩ = some (.int .i64 t.num) := (HB1.out.cell (p := ⟨w.heap.size, 1, none⟩) (by show w.heap.size < _; omega)).trans (by simp [World.cell?_alloc_lt])
  have f2 : w1.cell? ⟨w.heap.size, 2, none⟩ = some (.string t.name) := (HB1.out.cell (p := ⟨w.heap.size, 2, none⟩) (by show w.heap.size < _; omega)).trans (by simp [World.cell?_alloc_lt])
  have f3 : w1.cell? ⟨w.heap.size, 3, none⟩ = some (.slice a t.len c) := (HB1.out.cell (p := ⟨w.heap.size, 3, none⟩) (by show w.heap.size < _; omega)).trans (by simp [World.cell?_alloc_lt])
  clear hB1
  go_wp2_with fail
  by_cases hbig : t.big
  · refine (big_yes t _ a c (HT.out.below (two_alloc.trans (HB1.out.mono (by omega)))) hbig).mono ?_
    rintro e w2 ⟨rfl, hB2⟩
    have HB2 := Lib.hid (HB1.out.trans (hB2.mono (by have := HB1.out.size; simpa using this)))
    have q0 : w2.heap[w.heap.size + 1]? = some (.cells #[.bool false] 4) := (HB2.out.block _ (by omega)).trans (by have := World.alloc_heap_new (w.alloc (boxObj t a c)) (.cells #[.bool false] 4); rwa [World.size_alloc] at this)
    have r1 := cell_of_one q0
    have r2 := free_of_one q0
    clear hB2 q0
    go_wp2_with fail
    have hr9 : (w2.setCell ⟨w.heap.size + 1, 0, none⟩ (.bool true)).cell? ⟨w.heap.size + 1, 0, none⟩ = some (.bool true) := World.cell?_setCell_same' _ _ _ (by rw [r1]; rfl)
    refine ⟨.bool true, by simp [results, Tryd.results10, go_sem, hr9], rfl, ?_⟩
    exact (two_alloc.trans (HB2.out.mono (by omega))).setCell (by show w.heap.size ≤ w.heap.size + 1; omega) _
  refine (big_no t _ a c (HT.out.below (two_alloc.trans (HB1.out.mono (by omega)))) hbig).mono ?_
  rintro e w2 ⟨rfl, hB2⟩
  have HB2 := Lib.hid (HB1.out.trans (hB2.mono (by have := HB1.out.size; simpa using this)))
  have hz2 : w.heap.size + 1 + 1 ≤ w2.heap.size := by have := HB2.out.size; simpa using this
  have g0 := cell_below hB2 f0
  have g1 := cell_below hB2 f1
  have g2 := cell_below hB2 f2
  have g3 := cell_below hB2 f3
  have hsm := Tree.small hbig
  have hlw : w.heap.size < w2.heap.size := by omega
  have hlw1 : w.heap.size < w2.heap.size + 1 := by omega
  have hlw2 : w.heap.size < w2.heap.size + 1 + 1 := by omega
  clear hB2 f0 f1 f2 f3 hbig
  go_wp2_with fail
  have HB3 : Hid (Below w2.heap.size w2 (((w2.alloc (.cells #[.int .i64 0] 3)).alloc (.cells #[.int .i64 0] 3)).alloc (.cells #[.int .i64 0] 3))) := (((Below.refl _ _).alloc (Nat.le_refl _) _).alloc (by simp) _).alloc (by simp <;> omega) _
  have HBW2 : Hid (Below w.heap.size w w2) := two_alloc.trans (HB2.out.mono (by omega))
  refine (walk_any t _ a c ((HT.out.below HBW2.out).below HB3.out) (by omega) (by omega)).mono ?_
  rintro e w4 ⟨br, rfl, hB4, hit⟩
  have HIT := Lib.hid hit
  have hz4 : w2.heap.size + 3 ≤ w4.heap.size := by have := hB4.size; simpa using this
  have HB4 := Lib.hid (HB3.out.trans (hB4.mono (by simp <;> omega)))
  have HCNT : Hid (CntIn t a c w.heap.size w2.heap.size [] w4) := by
    refine ⟨(hB4.block _ (by simp <;> omega)).trans ?_, (hB4.block _ (by simp <;> omega)).trans ?_, (hB4.block _ (by simp)).trans ?_, (HB4.out.block _ hlw).trans ((HB2.out.block _ (by omega)).trans two_heap0), hlw, (HT.out.below HBW2.out).toIn.move (fun k hk _ => HB4.out.block k hk) (fun _ h _ => h)⟩
    · rw [Below.heap_alloc _ _ _ (by simp <;> omega), Below.heap_alloc _ _ _ (by simp)]; exact World.alloc_heap_new w2 _
    · rw [Below.heap_alloc _ _ _ (by simp)]
      have := World.alloc_heap_new (w2.alloc (.cells #[.int .i64 0] 3)) (.cells #[.int .i64 0] 3)
      rw [World.size_alloc] at this
      exact this
    · have := World.alloc_heap_new ((w2.alloc (.cells #[.int .i64 0] 3)).alloc (.cells #[.int .i64 0] 3)) (.cells #[.int .i64 0] 3)
      rw [World.size_alloc, World.size_alloc] at this
      exact this
  clear hit hB4 g0 g1 g2 g3
  go_wp2_with fail
  refine range_wpT (gf := 44) (lb := #[.pointer (some ⟨br, 0, none⟩)]) rfl (enters_of Tryd.func44 (by kernel_rfl) rfl) HIT.out (CntO w2.heap.size) ?_ ?_ ?_ ?_ (CntIn t a c w.heap.size w2.heap.size) (fun _ _ _ => False) ?_ ?_ HCNT.out (CntM w2.heap.size w4.heap.size) ?_ ?assign ?body ?done ?stop
  · rintro k (rfl | rfl | rfl) <;> omega
  · rintro k (rfl | rfl | rfl) ⟨h1, _⟩ <;> simp at h1 <;> omega
  · exact fun k h => h.2
  · rintro O x args W ⟨v, a, c, rfl, _⟩; rfl
  · exact fun pre A B h hk => h.keep hz4 hk
  · exact fun c pre A B h _ => h
  · exact fun x a' A B h hk => h.keep hk
  case assign =>
    rintro m l pre x args W K hI hz ⟨v, a5, c5, rfl, hp, hr⟩ hK
    have HP := Lib.hid hp
    have HR5 := Lib.hid hr
    have HK := Lib.hid hK
    have HBX : Hid (Below W.heap.size W (W.alloc (boxObj x.2 a5 c5))) := (Below.refl _ _).alloc (Nat.le_refl _) _
    clear hp hr hI hK
    simp only [List.zip_toArray, List.zip_cons_cons, List.zip_nil_right, List.foldl_toArray, List.foldl_cons, List.foldl_nil, List.setIfInBounds_toArray, List.set_cons_zero, List.set_cons_succ]
    gi_wp2
    exact HK.out _ _ HBX.out ⟨v, a5, c5, W.heap.size, rfl, HP.out.below HBX.out, HR5.out.move (fun k _ hk => HBX.out.block k hk) (fun _ h _ => h), World.alloc_heap_new W _, by omega⟩
  case body =>
    rintro m l pre x a' W hpx hI hz ⟨v, a5, c5, bx, rfl, hp, hr, hbx, hbl⟩
    have hmem := mem_of_prefix hpx
    have HX := Lib.hid hmem
    have HP := Lib.hid hp
    have HR5 := Lib.hid hr
    have HBX := Lib.hid hbx
    have HI := Lib.hid hI
    have cn := cell_of_one hI.n
    have cl := cell_of_one hI.l
    have ck := cell_of_one hI.k
    have fn := free_of_one hI.n
    have fl := free_of_one hI.l
    have fk := free_of_one hI.k
    obtain ⟨⟨b0, b1, b2, b3⟩, _⟩ := blk4 hI.box
    obtain ⟨⟨m0, m1, m2, m3⟩, _⟩ := blk4 hbx
    obtain ⟨pb, po, pc, rfl, hSp, hpc, hpb, hpk⟩ := hp
    have hpl : pre.length < t.size := by have := its_length t; obtain ⟨r, hr⟩ := hpx; rw [← hr] at this; simp at this; omega
    have hpd := path_le hmem
    have hln : maxOver (fun x => x.1.length) pre ≤ t.depth := by
      have := its_depth t; obtain ⟨r, hr⟩ := hpx; rw [← hr, maxOver_append, maxOver_append] at this; omega
    have hkn : maxOver (fun x => loopsOf t x.1) pre ≤ t.nest := by
      have := its_nest t; obtain ⟨r, hr⟩ := hpx; rw [← hr, maxOver_append, maxOver_append] at this; omega
    have hnd := Tree.nest_le_depth t
    have HPK := Lib.hid hpk
    clear hpk hmem hr hbx hI hpx
    simp only [List.setIfInBounds_toArray, List.set_cons_zero, List.set_cons_succ]
    gi_wp2
    generalize hW5 : World.setCell _ _ _ = W5
    have HK5 : Hid (Keep (CntO w2.heap.size) W W5) := by rw [← hW5]; exact (((Keep.refl _ W).setCell (.inl rfl) _).setCell (.inr (.inl rfl)) _)
    have HN5 : Hid (W5.heap[w2.heap.size]? = some (.cells #[.int .i64 ((pre.length : Int) + 1)] 3 (0, 0))) := by
      rw [← hW5]; exact (Below.heap_setCell _ _ _ _ (by show w2.heap.size ≠ w2.heap.size + 1; omega)).trans (one_setCell HI.out.n)
    have HL5 : Hid (W5.heap[w2.heap.size + 1]? = some (.cells #[.int .i64 (max ((maxOver (fun x => x.1.length) pre : Nat) : Int) (x.1.length : Nat))] 3 (0, 0))) := by
      rw [← hW5]; exact one_setCell ((Below.heap_setCell _ _ _ _ (by show w2.heap.size + 1 ≠ w2.heap.size; omega)).trans HI.out.l)
    have HK5' : Hid (W5.heap[w2.heap.size + 1 + 1]? = some (.cells #[.int .i64 (maxOver (fun x => loopsOf t x.1) pre : Nat)] 3 (0, 0))) := by
      rw [← hW5]; exact (Below.heap_setCell _ _ _ _ (by show w2.heap.size + 1 + 1 ≠ w2.heap.size + 1; omega)).trans ((Below.heap_setCell _ _ _ _ (by show w2.heap.size + 1 + 1 ≠ w2.heap.size; omega)).trans HI.out.k)
    clear hW5 cn cl ck fn fl fk b0 b1 b2 b3 m0 m1 m2 m3
    gi_loopw [8, 9] (fun lv kv wr => ∃ k : Nat, k ≤ x.1.length + 1 ∧ kv = .int .i64 k ∧ lv = .int .i64 (Tree.sumTo (lpAt t x.1) k : Nat) ∧ Below W5.heap.size W5 wr) (fun _ kv _ => x.1.length + 1 - (intOf kv).toNat)
    case atStart => exact ⟨0, by omega, rfl, rfl, Below.refl _ _⟩
    case round =>
      obtain ⟨k, hk, rfl, rfl, hB6⟩ := hrel
      have HB6 := Lib.hid hB6
      have HKW : Hid (∀ i, ¬ CntO w2.heap.size i → i < W.heap.size → wr.heap[i]? = W.heap[i]?) := fun i h1 h2 => (HB6.out.block i (Nat.lt_of_lt_of_le h2 HK5.out.size)).trans (HK5.out.block i h1 h2)
      have hNO : ¬ CntO w2.heap.size w.heap.size := by rintro (h | h | h) <;> omega
      have hBO : ¬ CntO w2.heap.size bx := by rintro (h | h | h) <;> omega
      have hPO : ¬ CntO w2.heap.size pb := fun h => hSp (.inl h)
      have hbxl : bx < W.heap.size := (Array.getElem?_eq_some_iff.1 HBX.out).1
      have hNl : w.heap.size < W.heap.size := (Array.getElem?_eq_some_iff.1 HI.out.box).1
      obtain ⟨⟨b0, b1, b2, b3⟩, _⟩ := blk4 ((HKW.out _ hNO hNl).trans HI.out.box)
      have HRT : Hid (Rep wr t a) := (HI.out.rep.move (S' := fun _ => True) (fun i hi hl => HKW.out i (by rintro (h | h | h) <;> omega) hl) (fun _ _ _ => trivial)).rep
      have HRX : Hid (Rep wr x.2 a5) := (HR5.out.move (S' := fun _ => True) (fun i hi hl => HKW.out i (fun h => hi (.inl h)) hl) (fun _ _ _ => trivial)).rep
      have HBXR : Hid (wr.heap[bx]? = some (boxObj x.2 a5 c5)) := (HKW.out _ hBO hbxl).trans HBX.out
      have HBXT : Hid (wr.heap[w.heap.size]? = some (boxObj t a c)) := (HKW.out _ hNO hNl).trans HI.out.box
      have hzr : W.heap.size ≤ wr.heap.size := Nat.le_trans HK5.out.size hB6.size
      have HLP := Lib.hid (Tree.sumTo_succ (lpAt t x.1) k)
      have hsk := sumLp_le t x.1 k
      clear hB6
      by_cases hkl : k ≤ x.1.length
      · have HPT : Hid (PathAt wr (.slice (some ⟨pb, po, none⟩) k pc) (x.1.take k)) := by
          have hlt : (x.1.take k).length = k := by rw [List.length_take]; omega
          refine .inr ⟨pb, po, pc, by rw [hlt], trivial, by rw [hlt]; omega, by omega, fun i hi => ?_⟩
          rw [hlt] at hi
          have h1 := HPK.out i (by omega)
          have h2 : (x.1.take k).getD i 0 = x.1.getD i 0 := by rw [List.getD_eq_getElem?_getD, List.getD_eq_getElem?_getD, List.getElem?_take, if_pos hi]
          rw [h2]
          exact (World.cell?_of_block (a := ⟨pb, po + i, none⟩) (HKW.out pb hPO hpb)).trans h1
        obtain ⟨u, hu⟩ : ∃ u, t.at (x.1.take k) = some u := by
          have h1 := its_at t x HX.out
          rw [← List.take_append_drop k x.1, Tree.at_append] at h1
          cases h2 : t.at (x.1.take k) with
          | none => rw [h2] at h1; cases h1
          | some u => exact ⟨u, rfl⟩
        have HU := Lib.hid hu
        have HAT : Hid (∀ W', Below wr.heap.size wr W' → Calls Tryd.prog 31 #[t.val a c, .slice (some ⟨pb, po, none⟩) k pc] W' (fun e w' => ∃ a6 c6, e = .returned (.tuple #[u.val a6 c6, .bool true]) ∧ RepIn (fun k => W'.heap.size ≤ k) w' u a6 ∧ Below W'.heap.size W' w')) := by
          intro W' hBW
          refine (at_new t (x.1.take k) W' a c _ (HRT.out.below hBW) (by omega) (HPT.out.below hBW) (by rw [List.length_take]; omega)).mono ?_
          rintro e w' ⟨a6, c6, h1, h2, h3⟩
          rw [HU.out] at h1 h2
          exact ⟨a6, c6, h1, h2, h3⟩
        have hk0 : (0 : Int) ≤ (k : Int) := by omega
        have hk1 : (k : Int) ≤ (pc : Int) := by omega
        have hkd : decide ((k : Int) ≤ (x.1.length : Int)) = true := by simp; omega
        have hdd : ∀ k : Nat, ((Fence.wide.inRound l).depth.isSome = true → 1 ≤ k) := fun k h => by cases h
        have hNlr : w.heap.size < wr.heap.size := by omega
        have HBZ : Hid (Below wr.heap.size wr (wr.alloc zeroObj).drew) := ((Below.refl _ _).alloc (Nat.le_refl _) _).drew
        have HBD : Hid (Below wr.heap.size wr wr.drew) := (Below.refl _ _).drew
        clear hu
        gi_wp2
        refine cut_normal (fun T => AtR wr T (t.val a c) (.slice (some ⟨pb, po, none⟩) x.1.length pc) (.int .i64 k) (.slice (some ⟨pb, po, none⟩) k pc) u) ?_ ?_
        · refine round_held (S := AtS t a c w.heap.size wr) (by kernel_rfl) (by kernel_rfl) OnlyN.no ⟨HBXT.out, (Below.refl _ _).drew⟩ (fun hHeld => ?_)
          refine wpAnyH_take (i := 0) (v := t.val a c) rfl (by kernel_rfl) (by kernel_rfl) (by kernel_rfl) (fun _ _ _ h => h) (Or.inl ⟨by rfl, ?_⟩) (by assumption) ?_
          · intro w' hSw; obtain ⟨⟨q0, q1, q2, q3⟩, _⟩ := blk4 hSw.box; clear hSw; go_simp
          (try simp only [Act.put, List.getElem_toArray, List.getElem_cons_zero, List.setIfInBounds_toArray, List.set_cons_zero, List.set_cons_succ])
          refine wpAnyH_take (i := 1) (v := .slice (some ⟨pb, po, none⟩) x.1.length pc) rfl (by kernel_rfl) (by kernel_rfl) (by kernel_rfl) (fun _ _ _ h => h) (Or.inl ⟨by rfl, ?_⟩) (by assumption) ?_
          · intro w' hSw; go_simp
          (try simp only [Act.put, List.getElem_toArray, List.getElem_cons_zero, List.getElem_cons_succ, List.setIfInBounds_toArray, List.set_cons_zero, List.set_cons_succ])
          refine wpAnyH_take (i := 2) (v := .int .i64 k) rfl (by kernel_rfl) (by kernel_rfl) (by kernel_rfl) (fun _ _ _ h => h) (Or.inl ⟨by rfl, ?_⟩) (by assumption) ?_
          · intro w' hSw; go_simp
          (try simp only [Act.put, List.getElem_toArray, List.getElem_cons_zero, List.getElem_cons_succ, List.setIfInBounds_toArray, List.set_cons_zero, List.set_cons_succ])
          refine wpAnyH_take (i := 3) (v := .slice (some ⟨pb, po, none⟩) k pc) rfl (by kernel_rfl) (by kernel_rfl) (by kernel_rfl) (fun _ _ _ h => h) (Or.inl ⟨by rfl, ?_⟩) (by assumption) ?_
          · intro w' hSw; go_simp
          (try simp only [Act.put, List.getElem_toArray, List.getElem_cons_zero, List.getElem_cons_succ, List.setIfInBounds_toArray, List.set_cons_zero, List.set_cons_succ])
          refine wpAnyH_ready (rs := [4, 8]) (by kernel_rfl) (by simp) (AllReadyH.cons rfl (fun K hK => ?_) (AllReadyH.cons rfl (fun K hK => ?_) AllReadyH.nil))
          · go_simp
            refine (HAT.out _ hHeld.bel).mono ?_
            rintro e w6 ⟨a6, c6, rfl, hr6, hB7⟩
            have HR6 := Lib.hid hr6
            refine hK.out _ _ (hHeld.next hB7) (fun hHeld => ?_)
            clear hK K
            rename_i hOld
            clear hOld
            (try simp only [Act.put, List.getElem_toArray, List.getElem_cons_zero, List.getElem_cons_succ, List.setIfInBounds_toArray, List.set_cons_zero, List.set_cons_succ])
            clear hr6 hB7
            have HH6 := Lib.hid hHeld
            refine wpAnyH_take (i := 5) (v := .tuple #[u.val a6 c6, .bool true]) rfl (by kernel_rfl) (by kernel_rfl) (by kernel_rfl) (fun _ _ _ h => h) (Or.inl ⟨by rfl, ?_⟩) (by assumption) ?_
            · intro w' hSw; go_simp
            (try simp only [Act.put, List.getElem_toArray, List.getElem_cons_zero, List.getElem_cons_succ, List.setIfInBounds_toArray, List.set_cons_zero, List.set_cons_succ])
            refine wpAnyH_take (i := 6) (v := u.val a6 c6) rfl (by kernel_rfl) (by kernel_rfl) (by kernel_rfl) (fun _ _ _ h => h) (Or.inl ⟨by rfl, ?_⟩) (by assumption) ?_
            · intro w' hSw; go_simp
            (try simp only [Act.put, List.getElem_toArray, List.getElem_cons_zero, List.getElem_cons_succ, List.setIfInBounds_toArray, List.set_cons_zero, List.set_cons_succ])
            refine wpAnyH_take (i := 7) (v := .bool true) rfl (by kernel_rfl) (by kernel_rfl) (by kernel_rfl) (fun _ _ _ h => h) (Or.inl ⟨by rfl, ?_⟩) (by assumption) ?_
            · intro w' hSw; go_simp
            (try simp only [Act.put, List.getElem_toArray, List.getElem_cons_zero, List.getElem_cons_succ, List.setIfInBounds_toArray, List.set_cons_zero, List.set_cons_succ])
            refine wpAnyH_ready (rs := [8]) (by kernel_rfl) (by simp) (AllReadyH.cons rfl (fun K hK => ?_) AllReadyH.nil)
            go_simp
            refine hK.out _ _ (hHeld.next ((Below.refl _ _).alloc (Nat.le_refl _) _)) (fun hHeld => ?_)
            clear hK K
            rename_i hOld
            clear hOld
            (try simp only [Act.put, List.getElem_toArray, List.getElem_cons_zero, List.getElem_cons_succ, List.setIfInBounds_toArray, List.set_cons_zero, List.set_cons_succ])
            refine wpAnyH_ready (rs := [9]) (by kernel_rfl) (by simp) (AllReadyH.cons rfl (fun K hK => ?_) AllReadyH.nil)
            go_simp
            refine hK.out _ _ (HH6.out.next ((Below.refl _ _).alloc (Nat.le_refl _) _)) (fun hHeld => ?_)
            clear hK K
            rename_i hOld
            clear hOld
            (try simp only [Act.put, List.getElem_toArray, List.getElem_cons_zero, List.getElem_cons_succ, List.setIfInBounds_toArray, List.set_cons_zero, List.set_cons_succ])
            refine wpAnyH_take (i := 10) (v := .bool true) rfl (by kernel_rfl) (by kernel_rfl) (by kernel_rfl) (fun _ _ _ h => h) (Or.inl ⟨by rfl, ?_⟩) (by assumption) ?_
            · intro w' hSw; go_simp
            (try simp only [Act.put, List.getElem_toArray, List.getElem_cons_zero, List.getElem_cons_succ, List.setIfInBounds_toArray, List.set_cons_zero, List.set_cons_succ])
            refine wpAnyH_done (by kernel_rfl) ?_ _
            exact ⟨w6.heap.size, a6, c6, by simp only [List.setIfInBounds_toArray, List.set_cons_zero, List.set_cons_succ], World.alloc_heap_new w6 _, HR6.out.rep.below ((Below.refl _ _).alloc (Nat.le_refl _) _), hHeld.bel, HH6.out.bel.size⟩
          · go_simp
            refine hK.out _ _ (hHeld.next ((Below.refl _ _).alloc (Nat.le_refl _) _)) (fun hHeld => ?_)
            clear hK K
            rename_i hOld
            clear hOld
            (try simp only [Act.put, List.getElem_toArray, List.getElem_cons_zero, List.getElem_cons_succ, List.setIfInBounds_toArray, List.set_cons_zero, List.set_cons_succ])
            refine wpAnyH_ready (rs := [4]) (by kernel_rfl) (by simp) (AllReadyH.cons rfl (fun K hK => ?_) AllReadyH.nil)
            go_simp
            refine (HAT.out _ hHeld.bel).mono ?_
            rintro e w6 ⟨a6, c6, rfl, hr6, hB7⟩
            have HR6 := Lib.hid hr6
            have HZ6 : Hid (w6.heap[wr.heap.size]? = some zeroObj) := Lib.hid ((hB7.block _ (by simp)).trans (World.alloc_heap_new _ _))
            obtain ⟨⟨z0, z1, z2, z3⟩, y0, y1, y2, y3⟩ := blk4 HZ6.out
            refine hK.out _ _ (hHeld.next hB7) (fun hHeld => ?_)
            clear hK K
            rename_i hOld
            clear hOld
            (try simp only [Act.put, List.getElem_toArray, List.getElem_cons_zero, List.getElem_cons_succ, List.setIfInBounds_toArray, List.set_cons_zero, List.set_cons_succ])
            clear hr6 hB7
            have HH6 := Lib.hid hHeld
            refine wpAnyH_take (i := 5) (v := .tuple #[u.val a6 c6, .bool true]) rfl (by kernel_rfl) (by kernel_rfl) (by kernel_rfl) (fun _ _ _ h => h) (Or.inl ⟨by rfl, ?_⟩) (by assumption) ?_
            · intro w' hSw; go_simp
            (try simp only [Act.put, List.getElem_toArray, List.getElem_cons_zero, List.getElem_cons_succ, List.setIfInBounds_toArray, List.set_cons_zero, List.set_cons_succ])
            refine wpAnyH_take (i := 6) (v := u.val a6 c6) rfl (by kernel_rfl) (by kernel_rfl) (by kernel_rfl) (fun _ _ _ h => h) (Or.inl ⟨by rfl, ?_⟩) (by assumption) ?_
            · intro w' hSw; go_simp
            (try simp only [Act.put, List.getElem_toArray, List.getElem_cons_zero, List.getElem_cons_succ, List.setIfInBounds_toArray, List.set_cons_zero, List.set_cons_succ])
            refine wpAnyH_take (i := 7) (v := .bool true) rfl (by kernel_rfl) (by kernel_rfl) (by kernel_rfl) (fun _ _ _ h => h) (Or.inl ⟨by rfl, ?_⟩) (by assumption) ?_
            · intro w' hSw; go_simp
            (try simp only [Act.put, List.getElem_toArray, List.getElem_cons_zero, List.getElem_cons_succ, List.setIfInBounds_toArray, List.set_cons_zero, List.set_cons_succ])
            refine wpAnyH_ready (rs := [9]) (by kernel_rfl) (by simp) (AllReadyH.cons rfl (fun K hK => ?_) AllReadyH.nil)
            go_simp
            refine hK.out _ _ (HH6.out.put hNlr) (fun hHeld => ?_)
            clear hK K
            rename_i hOld
            clear hOld
            (try simp only [Act.put, List.getElem_toArray, List.getElem_cons_zero, List.getElem_cons_succ, List.setIfInBounds_toArray, List.set_cons_zero, List.set_cons_succ])
            refine wpAnyH_take (i := 10) (v := .bool true) rfl (by kernel_rfl) (by kernel_rfl) (by kernel_rfl) (fun _ _ _ h => h) (Or.inl ⟨by rfl, ?_⟩) (by assumption) ?_
            · intro w' hSw; go_simp
            (try simp only [Act.put, List.getElem_toArray, List.getElem_cons_zero, List.getElem_cons_succ, List.setIfInBounds_toArray, List.set_cons_zero, List.set_cons_succ])
            refine wpAnyH_done (by kernel_rfl) ?_ _
            exact ⟨wr.heap.size, a6, c6, by simp only [List.setIfInBounds_toArray, List.set_cons_zero, List.set_cons_succ], set4_at HZ6.out, (HR6.out.move (S' := fun _ => True) (fun k hk _ => set4_other (by simp at hk; omega)) (fun _ _ _ => trivial)).rep, hHeld.bel, Nat.le_refl _⟩
        · rintro a' w' ⟨bb, a6, c6, rfl, hbb, hr6, hB7, hbbl⟩
          simp only [List.setIfInBounds_toArray, List.set_cons_zero, List.set_cons_succ]
          obtain ⟨⟨z0, z1, z2, z3⟩, _⟩ := blk4 hbb
          have HBX7 : Hid (w'.heap[bx]? = some (boxObj x.2 a5 c5)) := (hB7.block _ (by omega)).trans HBXR.out
          obtain ⟨⟨m0, m1, m2, m3⟩, _⟩ := blk4 HBX7.out
          have HB7 := Lib.hid (HB6.out.trans (hB7.mono HB6.out.size))
          have HRX7 := Lib.hid (HRX.out.below hB7)
          have HR6 := Lib.hid hr6
          have hst : true = true := rfl
          have HLQ : Hid (lpAt t x.1 k = lp u) := by show _ = _; unfold lpAt; rw [HU.out]; rfl
          generalize hsum : Tree.sumTo (lpAt t x.1) k = s0 at *
          have HSUM := Lib.hid hsum
          clear hst hbb hr6 hB7 b0 b1 b2 b3 hsum
          by_cases hke : k < x.1.length
          · have e1 : ((k : Int) == (x.1.length : Int)) = false := by simp; omega
            have e2 : (k == x.1.length) = false := by simp; omega
            gi_wp2
            refine ⟨trivial, ?_⟩
            gi_wp2
            all_goals
              refine cnt_rel hkl HLP.out HLQ.out HB7.out ?_
              first
                | (have h : u.kind = 42 := by assumption
                   simp [lp, h])
                | (have h : (u.kind == 42) = true ∨ (u.kind == 43) = true := by assumption
                   simp at h
                   simp [lp, h])
                | (have h : (u.kind == 42) = false ∧ (u.kind == 43) = false := by assumption
                   simp at h
                   simp [lp, h])
          · obtain rfl : k = x.1.length := by omega
            obtain rfl : u = x.2 := by
              have h1 := its_at t x HX.out
              have h2 := HU.out
              rw [List.take_length] at h2
              rw [h2] at h1
              exact Option.some.inj h1
            have HEQ : Hid (∀ n, CallsIn (Fence.wide.inRound l) n Tryd.prog 32 #[x.2.val a6 c6, x.2.val a5 c5] w' (fun e w'' => e = .returned (.bool true) ∧ Below w'.heap.size w' w'')) := by
              intro n
              refine CallsIn.inRound l (callsIn_wide.2 ((equal_any x.2 x.2 w' a6 a5 c6 c5 HR6.out HRX7.out).mono ?_))
              rintro e w'' ⟨h1, h2⟩
              rw [eqT_self] at h1
              exact ⟨h1, h2⟩
            gi_wp2
            refine ⟨trivial, hdd _, ?_⟩
            with_reducible refine (HEQ.out _).mono ?_
            rintro e w8 ⟨rfl, hB8⟩
            have HB8 := Lib.hid (HB7.out.trans (hB8.mono HB7.out.size))
            have n0 := cell_below hB8 z0
            clear hB8 z0 z1 z2 z3 m0 m1 m2 m3
            gi_wp2
            all_goals
              refine cnt_rel (Nat.le_refl _) HLP.out HLQ.out HB8.out ?_
              first
                | (have h : x.2.kind = 42 := by assumption
                   simp [lp, h])
                | (have h : (x.2.kind == 42) = true ∨ (x.2.kind == 43) = true := by assumption
                   simp at h
                   simp [lp, h])
                | (have h : (x.2.kind == 42) = false ∧ (x.2.kind == 43) = false := by assumption
                   simp at h
                   simp [lp, h])
      · obtain rfl : k = x.1.length + 1 := by omega
        have HKR : Hid (wr.heap[w2.heap.size + 1 + 1]? = some (.cells #[.int .i64 (maxOver (fun x => loopsOf t x.1) pre : Nat)] 3 (0, 0))) := (HB6.out.block _ (Array.getElem?_eq_some_iff.1 HK5'.out).1).trans HK5'.out
        have ck := cell_of_one HKR.out
        have fk := free_of_one HKR.out
        generalize hsum : Tree.sumTo (lpAt t x.1) (x.1.length + 1) = s0 at *
        have HSUM := Lib.hid hsum
        clear hsum b0 b1 b2 b3
        gi_wp2
        refine ⟨?_, ?_⟩
        · exact cnt_keep HK5.out HB6.out
        · exact cnt_next HI.out HN5.out HL5.out HKR.out HB6.out HSUM.out HK5.out
  case stop =>
    rintro c q W hq hn
    exact hn.elim
  case done =>
    rintro W hI hK hD
    have hBW : Below w.heap.size w4 W := hK.below (by omega) (by rintro k (rfl | rfl | rfl) <;> omega)
    have HBW := Lib.hid ((HBW2.out.trans (HB4.out.mono (by omega))).trans hBW)
    have q0 : W.heap[w.heap.size + 1]? = some (.cells #[.bool false] 4) := (hK.block _ (by rintro (h | h | h) <;> omega) (by omega)).trans ((HB4.out.block _ (by omega)).trans ((HB2.out.block _ (by omega)).trans (by have := World.alloc_heap_new (w.alloc (boxObj t a c)) (.cells #[.bool false] 4); rwa [World.size_alloc] at this)))
    have r1 := cell_of_one q0
    have r2 := free_of_one q0
    obtain ⟨d, hd⟩ : ∃ d, maxOver (fun x => x.1.length) (t.items []) = d := ⟨_, rfl⟩
    have HDEP : Hid (t.depth = d + 1) := by show _ = _; rw [← its_depth t, hd]
    have cn := cell_of_one hI.n
    have cl := cell_of_one hI.l
    have ck := cell_of_one hI.k
    rw [its_length] at cn
    rw [hd] at cl
    rw [its_nest] at ck
    obtain ⟨⟨b0, b1, b2, b3⟩, _⟩ := blk4 hI.box
    have hS := cntS_drew (D := w4.heap.size) ⟨b0, b1, b2, b3, cn, cl, ck, hD, HBW.out⟩
    have HS := Lib.hid hS
    have HM : Hid (t.size ≤ 1000000 ∧ t.depth ≤ 1000000 ∧ t.nest ≤ 1000000) := by
      have := Tree.nest_le_depth t
      exact ⟨by omega, by omega, by omega⟩
    have hdl : d ≤ 100 := by have := HDEP.out; omega
    have hwd : IntKind.i64.wrap ((d : Int) + 1) = (d : Int) + 1 := IntWalk.i64_in _ (by omega)
    clear hS hI hK hD hBW q0 b0 b1 b2 b3 cn cl ck hd
    go_wp2_with fail
    go_region_held3 (fun w' => w'.cell? ⟨w.heap.size, 0, none⟩ = some (.int .u8 t.kind) ∧ w'.cell? ⟨w.heap.size, 1, none⟩ = some (.int .i64 t.num) ∧ w'.cell? ⟨w.heap.size, 2, none⟩ = some (.string t.name) ∧ w'.cell? ⟨w.heap.size, 3, none⟩ = some (.slice a t.len c) ∧ w'.cell? ⟨w2.heap.size, 0, none⟩ = some (.int .i64 (t.size : Nat)) ∧ w'.cell? ⟨w2.heap.size + 1, 0, none⟩ = some (.int .i64 (d : Nat)) ∧ w'.cell? ⟨w2.heap.size + 1 + 1, 0, none⟩ = some (.int .i64 (t.nest : Nat)) ∧ w'.heap[w4.heap.size]? = some (.deferred (some [])) ∧ Below w.heap.size w w')
      (first | (exact HS.out) | (exact cntS_next rfl (by assumption) (by assumption)) | (exact cntS_put (by assumption) (by omega) (by omega)))
      (first
        | (go_at_call 20; refine (size_any t _ a c (HT.out.below (cntS_bel (d := d) (M := w2.heap.size) (D := w4.heap.size) (t := t) (a := a) (c := c) (by assumption))) HM.out.1).mono ?_; rintro e w3 ⟨rfl, hB3⟩; obtain ⟨r3, f3⟩ : w3.cell? ⟨w.heap.size + 1, 0, none⟩ = some (.bool false) ∧ w3.frozen? ⟨w.heap.size + 1, 0, none⟩ = false := res_below hB3 (by first | assumption | (simp; assumption)) (by first | assumption | (simp; assumption)))
        | (go_at_call 22; refine (depth_any t _ a c (HT.out.below (cntS_bel (d := d) (M := w2.heap.size) (D := w4.heap.size) (t := t) (a := a) (c := c) (by assumption))) HM.out.2.1).mono ?_; rintro e w3 ⟨he, hB3⟩; rw [HDEP.out] at he; subst he; obtain ⟨r3, f3⟩ : w3.cell? ⟨w.heap.size + 1, 0, none⟩ = some (.bool false) ∧ w3.frozen? ⟨w.heap.size + 1, 0, none⟩ = false := res_below hB3 (by first | assumption | (simp; assumption)) (by first | assumption | (simp; assumption)))
        | (go_at_call 24; refine (nest_any t _ a c (HT.out.below (cntS_bel (d := d) (M := w2.heap.size) (D := w4.heap.size) (t := t) (a := a) (c := c) (by assumption))) HM.out.2.2).mono ?_; rintro e w3 ⟨rfl, hB3⟩; obtain ⟨r3, f3⟩ : w3.cell? ⟨w.heap.size + 1, 0, none⟩ = some (.bool false) ∧ w3.frozen? ⟨w.heap.size + 1, 0, none⟩ = false := res_below hB3 (by first | assumption | (simp; assumption)) (by first | assumption | (simp; assumption))))
    go_split_ands
    have hE : (w3.setCell ⟨w.heap.size + 1, 0, none⟩ (.bool true)).heap[w4.heap.size]? = some (.deferred (some [])) := by assumption
    have hb9 : Below w.heap.size w (w3.setCell ⟨w.heap.size + 1, 0, none⟩ (.bool true)) := by assumption
    have HE := Lib.hid hE
    have HB9 := Lib.hid hb9
    have hz3 : w.heap.size + 1 < w3.heap.size := World.block_lt_of_cell? w3 _ r3
    have hlz : w4.heap.size < w3.heap.size := by have := (Array.getElem?_eq_some_iff.1 hE).1; simpa using this
    have hr9 : ((w3.setCell ⟨w.heap.size + 1, 0, none⟩ (.bool true)).putObj w4.heap.size (.deferred none)).cell? ⟨w.heap.size + 1, 0, none⟩ = some (.bool true) :=
      (World.cell?_of_block (a := ⟨w.heap.size + 1, 0, none⟩) (World.putObj_heap_other (by show w.heap.size + 1 ≠ w4.heap.size; omega))).trans (World.cell?_setCell_same' _ _ _ (by rw [r3]; rfl))
    have HR9 := Lib.hid hr9
    clear hE hb9 hr9
    go_wp2_with fail
    refine ⟨by simp, .inl ⟨_, _, rfl, run_takeDeferred HE.out, ?_⟩⟩
    refine ⟨.bool true, by simp [results, Tryd.results10, go_sem, HR9.out], rfl, ?_⟩
    exact ⟨HB9.out.os, HB9.out.tape, HB9.out.output, by have := HB9.out.size; simpa using this, fun k hk => (World.putObj_heap_other (by omega)).trans (HB9.out.block k hk)⟩
end Go.Proofs.YtfkegjdgbnkicaaDoor
