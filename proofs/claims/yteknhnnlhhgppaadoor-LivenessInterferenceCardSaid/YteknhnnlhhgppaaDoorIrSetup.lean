/-
  How Run (package ir) lays out a run: the runner, the map of names, the rows of arrays and objects, one by one.
-/
import Derived.Test.YteknhnnlhhgppaaDoorIrClone
import Derived.Test.YteknhnnlhhgppaaDoorIrStep
import Derived.Test.YteknhnnlhhgppaaDoorIrValid
import Derived.Laws.MakeOwn
import Derived.Laws.OwnMore
namespace Go.Proofs.YteknhnnlhhgppaaDoor
set_option linter.unusedVariables false
set_option linter.unusedSimpArgs false
open Go.RowKit
set_option maxRecDepth 100000

/-- the state at a run's begin -/
def St.init (n : Nat) (mem : List (List Int)) : St := ⟨List.replicate n 0, [0, 0, 0, 0], mem, false, ⟨#[]⟩, [], 0⟩
def ocCells (va vo : Value) : Array Value := #[va, vo, .slice none 0 0, .int .i64 0, .int .i64 0, .int .i64 0]
structure SetAt (N : Nat) (W1 : World) (n : Nat) (inv : Value) (w : World) (ml : List (ByteArray × Value)) (va vo : Value) (la lo : List Value) (mem : List (List Int)) : Prop where
  bel : Below N W1 w
  rg : w.heap[N]? = some (.cells (w32 (List.replicate n 0)).toArray 21)
  map : MapAt Tryd.prog 9 w (N + 1) ml
  rb : w.heap[N + 2]? = some (.cells (runCells ⟨N + 2, N, N + 1, [], inv⟩ (.slice none 0 0) (St.init n [])) 147)
  ob : w.heap[N + 3]? = some (.cells (ocCells va vo) 111)
  oa : w.ownsRow (N + 4) 66 1 va la.length la
  oo : w.ownsRow (N + 4) 66 1 vo lo.length lo
  len : mem.length = (la ++ lo).length
  rows : ∀ i, i < mem.length → w.ownsRow (N + 4) 21 1 ((la ++ lo).getD i undef) (mem.getD i []).length (w32 (mem.getD i []))
  ab : va.ownBlock = none ∨ va.ownBlock ≠ vo.ownBlock
  ra : ∀ i, i < mem.length → ((la ++ lo).getD i undef).ownBlock = none ∨ (((la ++ lo).getD i undef).ownBlock ≠ va.ownBlock ∧ ((la ++ lo).getD i undef).ownBlock ≠ vo.ownBlock)
  rr : ∀ i j, i < mem.length → j < mem.length → i ≠ j → ((la ++ lo).getD i undef).ownBlock = none ∨ ((la ++ lo).getD i undef).ownBlock ≠ ((la ++ lo).getD j undef).ownBlock
theorem getD_snoc {α : Type} {l : List α} {x d : α} {i : Nat} (h : i < l.length) : (l ++ [x]).getD i d = l.getD i d := by simp [List.getElem?_append_left h]
theorem getD_last {α : Type} {l : List α} {x d : α} {i : Nat} (h : i = l.length) : (l ++ [x]).getD i d = x := by subst h; simp
section
variable {N n : Nat} {W1 w w' V w2 : World} {inv va vo v : Value} {ml : List (ByteArray × Value)} {la lo : List Value} {mem : List (List Int)} {row : List Int} {gb cap : Nat}
theorem SetAt.keep (h : SetAt N W1 n inv w ml va vo la lo mem) (hN : N ≤ w.heap.size) (hb : Below w.heap.size w w') : SetAt N W1 n inv w' ml va vo la lo mem :=
  { h with
    bel := h.bel.trans (hb.mono hN)
    rg := (hb.block _ (lt_heap h.rg)).trans h.rg
    map := h.map.below hb
    rb := (hb.block _ (lt_heap h.rb)).trans h.rb
    ob := (hb.block _ (lt_heap h.ob)).trans h.ob
    oa := ownsRow_below h.oa hb
    oo := ownsRow_below h.oo hb
    rows := fun i hi => ownsRow_below (h.rows i hi) hb }
theorem SetAt.size (h : SetAt N W1 n inv w ml va vo la lo mem) : N + 4 ≤ w.heap.size := lt_heap h.ob
/-- a name more -/
theorem SetAt.name (h : SetAt N W1 n inv w ml va vo la lo mem) {ml' : List (ByteArray × Value)} (hm : MapAt Tryd.prog 9 w2 (N + 1) ml') (hg : w.grownBy w2 (some (N + 1))) : SetAt N W1 n inv w2 ml' va vo la lo mem := by
  have hsz := h.size
  have old : ∀ k, k < w.heap.size → k ≠ N + 1 → w2.heap[k]? = w.heap[k]? := fun k hk hn => hg.block k hk (fun e => hn (by injection e))
  have hrow : ∀ {v : Value} {e : TypeId} {m : Nat} {xs : List Value}, w.ownsRow (N + 4) e 1 v m xs → w2.ownsRow (N + 4) e 1 v m xs := fun ho => ownsRow_move ho (fun k hk hl => old k hl (by have := (ownsRow_lt ho hk).1; omega))
  exact { h with
    bel := h.bel.grown hg (by omega) (fun k hk => by cases hk; omega)
    rg := (old _ (by omega) (by omega)).trans h.rg
    map := hm
    rb := (old _ (by omega) (by omega)).trans h.rb
    ob := (old _ (by omega) (by omega)).trans h.ob
    oa := hrow h.oa
    oo := hrow h.oo
    rows := fun i hi => hrow (h.rows i hi) }
/-- an array more -/
theorem SetAt.pushA (h : SetAt N W1 n inv w ml va vo la [] mem) (hB : Below w.heap.size w V) (hv : V.ownsRow w.heap.size 21 1 v row.length (w32 row)) (hg : V.grownBy w2 va.ownBlock) (ho : w2.ownsRow (N + 4) 66 1 (.slice (some ⟨gb, 0, none⟩) (la.length + 1) cap) (la.length + 1) (la ++ [v])) (hp : va.ownBlock = some gb ∨ V.heap.size ≤ gb) :
    SetAt N W1 n inv (w2.setCell ⟨N + 3, 0, none⟩ (.slice (some ⟨gb, 0, none⟩) (la.length + 1) cap)) ml (.slice (some ⟨gb, 0, none⟩) (la.length + 1) cap) vo (la ++ [v]) [] (mem ++ [row]) := by
  have hsz := h.size
  have hVs := hB.size
  have hab : ∀ k, va.ownBlock = some k → N + 4 ≤ k ∧ k < w.heap.size := fun k hk => ownsRow_lt h.oa hk
  have hlen : mem.length = la.length := by have := h.len; simpa using this
  have old : ∀ k, k < w.heap.size → va.ownBlock ≠ some k → k ≠ N + 3 → (w2.setCell ⟨N + 3, 0, none⟩ (.slice (some ⟨gb, 0, none⟩) (la.length + 1) cap)).heap[k]? = w.heap[k]? := fun k hk hn h3 =>
    (Below.heap_setCell _ _ _ _ h3).trans ((hg.block k (by omega) (fun e => hn e.symm)).trans (hB.block k hk))
  have oldV : ∀ k, k < V.heap.size → va.ownBlock ≠ some k → k ≠ N + 3 → (w2.setCell ⟨N + 3, 0, none⟩ (.slice (some ⟨gb, 0, none⟩) (la.length + 1) cap)).heap[k]? = V.heap[k]? := fun k hk hn h3 =>
    (Below.heap_setCell _ _ _ _ h3).trans (hg.block k hk (fun e => hn e.symm))
  have hgne : ∀ k, k < V.heap.size → va.ownBlock ≠ some k → gb ≠ k := fun k hk hn e => by
    rcases hp with e1 | e1
    · exact hn (by rw [e1, e])
    · omega
  have hgb : N + 4 ≤ gb := by rcases hp with e | e; exact (hab gb e).1; omega
  have low : ∀ k, k < N + 4 → va.ownBlock ≠ some k := fun k hk e => by have := (hab k e).1; omega
  have hvb : ∀ k, v.ownBlock = some k → w.heap.size ≤ k ∧ k < V.heap.size := fun k hk => ownsRow_lt hv hk
  have vne : ∀ k, v.ownBlock = some k → va.ownBlock ≠ some k := fun k hk e => by have := (hab k e).2; have := (hvb k hk).1; omega
  have hl : ∀ i, i < (mem ++ [row]).length → i < mem.length ∨ i = mem.length := fun i hi => by simp at hi; omega
  have g1 : ∀ i, i < mem.length → (la ++ [v] ++ []).getD i undef = (la ++ []).getD i undef := fun i hi => by rw [List.append_nil, List.append_nil]; exact getD_snoc (by omega)
  have g2 : (la ++ [v] ++ []).getD mem.length undef = v := by rw [List.append_nil]; exact getD_last hlen
  have m1 : ∀ i, i < mem.length → (mem ++ [row]).getD i [] = mem.getD i [] := fun i hi => getD_snoc hi
  have m2 : (mem ++ [row]).getD mem.length [] = row := getD_last rfl
  have rown : ∀ i, i < mem.length → ∀ k, ((la ++ []).getD i undef).ownBlock = some k → va.ownBlock ≠ some k ∧ k < w.heap.size ∧ N + 4 ≤ k := fun i hi k hk => by
    have := ownsRow_lt (h.rows i hi) hk
    refine ⟨fun e => ?_, this.2, this.1⟩
    rcases h.ra i hi with e1 | e1
    · rw [hk] at e1; cases e1
    · exact e1.1 (by rw [hk, e])
  refine ⟨(((h.bel.trans (hB.mono (by omega))).grown hg (by omega) (fun k hk => by have := (hab k hk).1; omega)).setCell (by show N ≤ N + 3; omega) _), (old _ (by omega) (low _ (by omega)) (by omega)).trans h.rg, h.map.move (old _ (by omega) (low _ (by omega)) (by omega)), (old _ (by omega) (low _ (by omega)) (by omega)).trans h.rb, ?_, ?_, ?_, by simp [hlen], fun i hi => ?_, ?_, fun i hi => ?_, fun i j hi hj hij => ?_⟩
  · rw [setCell_heap (((hg.block (N + 3) (by omega) (fun e => low _ (by omega) e.symm)).trans (hB.block _ (by omega))).trans h.ob)]
    simp [ocCells]
  · simp only [List.length_append, List.length_singleton]
    exact ownsRow_move ho (fun k hk _ => Below.heap_setCell _ _ _ _ (by cases hk; show gb ≠ N + 3; omega))
  · refine ownsRow_move h.oo (fun k hk hl => old k hl (fun e => ?_) (by have := (ownsRow_lt h.oo hk).1; omega))
    rcases h.ab with e1 | e1
    · rw [e] at e1; cases e1
    · exact e1 (by rw [e, hk])
  · rcases hl i hi with hi | rfl
    · rw [g1 i hi, m1 i hi]
      exact ownsRow_move (h.rows i hi) (fun k hk hl => old k hl (rown i hi k hk).1 (by have := (rown i hi k hk).2.2; omega))
    · rw [g2, m2]
      have := ownsRow_move (w' := w2.setCell ⟨N + 3, 0, none⟩ (.slice (some ⟨gb, 0, none⟩) (la.length + 1) cap)) hv (fun k hk hl => oldV k hl (vne k hk) (by have := (hvb k hk).1; omega))
      exact ownsRow_base this (by omega)
  · refine .inr (fun e => ?_)
    have e : some gb = vo.ownBlock := e
    have := ownsRow_lt h.oo e.symm
    refine hgne gb (by omega) (fun e1 => ?_) rfl
    rcases h.ab with e2 | e2
    · rw [e1] at e2; cases e2
    · exact e2 (by rw [e1, e])
  · rcases hl i hi with hi | rfl
    · rw [g1 i hi]
      cases hb : ((la ++ []).getD i undef).ownBlock with
      | none => exact .inl rfl
      | some k =>
        obtain ⟨r1, r2, r3⟩ := rown i hi k hb
        refine .inr ⟨fun e => hgne k (by omega) r1 (by injection e with e; exact e.symm), ?_⟩
        rcases h.ra i hi with e1 | e1
        · rw [hb] at e1; cases e1
        · rw [← hb]; exact e1.2
    · rw [g2]
      cases hb : v.ownBlock with
      | none => exact .inl rfl
      | some k =>
        refine .inr ⟨fun e => hgne k (hvb k hb).2 (vne k hb) (by injection e with e; exact e.symm), fun e => ?_⟩
        have := (ownsRow_lt h.oo e.symm).2
        have := (hvb k hb).1
        omega
  · have hne : ∀ i, i < mem.length → ((la ++ []).getD i undef).ownBlock = none ∨ ((la ++ []).getD i undef).ownBlock ≠ v.ownBlock := fun i hi => by
      cases hb : ((la ++ []).getD i undef).ownBlock with
      | none => exact .inl rfl
      | some k =>
        refine .inr (fun e => ?_)
        have := (rown i hi k hb).2.1
        have := (hvb k e.symm).1
        omega
    rcases hl i hi with hi | rfl
    · rcases hl j hj with hj | rfl
      · rw [g1 i hi, g1 j hj]; exact h.rr i j hi hj hij
      · rw [g1 i hi, g2]; exact hne i hi
    · rcases hl j hj with hj | rfl
      · rw [g1 j hj, g2]
        cases hb : v.ownBlock with
        | none => exact .inl rfl
        | some k =>
          refine .inr (fun e => ?_)
          have := (rown j hj k e.symm).2.1
          have := (hvb k hb).1
          omega
      · exact absurd rfl hij
/-- an object more -/
theorem SetAt.pushB (h : SetAt N W1 n inv w ml va vo la lo mem) (hB : Below w.heap.size w V) (hv : V.ownsRow w.heap.size 21 1 v row.length (w32 row)) (hg : V.grownBy w2 vo.ownBlock) (ho : w2.ownsRow (N + 4) 66 1 (.slice (some ⟨gb, 0, none⟩) (lo.length + 1) cap) (lo.length + 1) (lo ++ [v])) (hp : vo.ownBlock = some gb ∨ V.heap.size ≤ gb) :
    SetAt N W1 n inv (w2.setCell ⟨N + 3, 1, none⟩ (.slice (some ⟨gb, 0, none⟩) (lo.length + 1) cap)) ml va (.slice (some ⟨gb, 0, none⟩) (lo.length + 1) cap) la (lo ++ [v]) (mem ++ [row]) := by
  have hsz := h.size
  have hVs := hB.size
  have hab : ∀ k, vo.ownBlock = some k → N + 4 ≤ k ∧ k < w.heap.size := fun k hk => ownsRow_lt h.oo hk
  have hlen : mem.length = (la ++ lo).length := h.len
  have old : ∀ k, k < w.heap.size → vo.ownBlock ≠ some k → k ≠ N + 3 → (w2.setCell ⟨N + 3, 1, none⟩ (.slice (some ⟨gb, 0, none⟩) (lo.length + 1) cap)).heap[k]? = w.heap[k]? := fun k hk hn h3 =>
    (Below.heap_setCell _ _ _ _ h3).trans ((hg.block k (by omega) (fun e => hn e.symm)).trans (hB.block k hk))
  have oldV : ∀ k, k < V.heap.size → vo.ownBlock ≠ some k → k ≠ N + 3 → (w2.setCell ⟨N + 3, 1, none⟩ (.slice (some ⟨gb, 0, none⟩) (lo.length + 1) cap)).heap[k]? = V.heap[k]? := fun k hk hn h3 =>
    (Below.heap_setCell _ _ _ _ h3).trans (hg.block k hk (fun e => hn e.symm))
  have hgne : ∀ k, k < V.heap.size → vo.ownBlock ≠ some k → gb ≠ k := fun k hk hn e => by
    rcases hp with e1 | e1
    · exact hn (by rw [e1, e])
    · omega
  have hgb : N + 4 ≤ gb := by rcases hp with e | e; exact (hab gb e).1; omega
  have low : ∀ k, k < N + 4 → vo.ownBlock ≠ some k := fun k hk e => by have := (hab k e).1; omega
  have hvb : ∀ k, v.ownBlock = some k → w.heap.size ≤ k ∧ k < V.heap.size := fun k hk => ownsRow_lt hv hk
  have vne : ∀ k, v.ownBlock = some k → vo.ownBlock ≠ some k := fun k hk e => by have := (hab k e).2; have := (hvb k hk).1; omega
  have hl : ∀ i, i < (mem ++ [row]).length → i < mem.length ∨ i = mem.length := fun i hi => by simp at hi; omega
  have g1 : ∀ i, i < mem.length → (la ++ (lo ++ [v])).getD i undef = (la ++ lo).getD i undef := fun i hi => by rw [← List.append_assoc]; exact getD_snoc (by omega)
  have g2 : (la ++ (lo ++ [v])).getD mem.length undef = v := by rw [← List.append_assoc]; exact getD_last hlen
  have m1 : ∀ i, i < mem.length → (mem ++ [row]).getD i [] = mem.getD i [] := fun i hi => getD_snoc hi
  have m2 : (mem ++ [row]).getD mem.length [] = row := getD_last rfl
  have rown : ∀ i, i < mem.length → ∀ k, ((la ++ lo).getD i undef).ownBlock = some k → vo.ownBlock ≠ some k ∧ k < w.heap.size ∧ N + 4 ≤ k := fun i hi k hk => by
    have := ownsRow_lt (h.rows i hi) hk
    refine ⟨fun e => ?_, this.2, this.1⟩
    rcases h.ra i hi with e1 | e1
    · rw [hk] at e1; cases e1
    · exact e1.2 (by rw [hk, e])
  refine ⟨(((h.bel.trans (hB.mono (by omega))).grown hg (by omega) (fun k hk => by have := (hab k hk).1; omega)).setCell (by show N ≤ N + 3; omega) _), (old _ (by omega) (low _ (by omega)) (by omega)).trans h.rg, h.map.move (old _ (by omega) (low _ (by omega)) (by omega)), (old _ (by omega) (low _ (by omega)) (by omega)).trans h.rb, ?_, ?_, ?_, by simp [hlen]; omega, fun i hi => ?_, ?_, fun i hi => ?_, fun i j hi hj hij => ?_⟩
  · rw [setCell_heap (((hg.block (N + 3) (by omega) (fun e => low _ (by omega) e.symm)).trans (hB.block _ (by omega))).trans h.ob)]
    simp [ocCells]
  · refine ownsRow_move h.oa (fun k hk hl => old k hl (fun e => ?_) (by have := (ownsRow_lt h.oa hk).1; omega))
    rcases h.ab with e1 | e1
    · rw [hk] at e1; cases e1
    · exact e1 (by rw [e, hk])
  · simp only [List.length_append, List.length_singleton]
    exact ownsRow_move ho (fun k hk _ => Below.heap_setCell _ _ _ _ (by cases hk; show gb ≠ N + 3; omega))
  · rcases hl i hi with hi | rfl
    · rw [g1 i hi, m1 i hi]
      exact ownsRow_move (h.rows i hi) (fun k hk hl => old k hl (rown i hi k hk).1 (by have := (rown i hi k hk).2.2; omega))
    · rw [g2, m2]
      have := ownsRow_move (w' := w2.setCell ⟨N + 3, 1, none⟩ (.slice (some ⟨gb, 0, none⟩) (lo.length + 1) cap)) hv (fun k hk hl => oldV k hl (vne k hk) (by have := (hvb k hk).1; omega))
      exact ownsRow_base this (by omega)
  · cases hb : va.ownBlock with
    | none => exact .inl rfl
    | some k =>
      refine .inr (fun e => ?_)
      have e : k = gb := by injection e
      have := ownsRow_lt h.oa hb
      refine hgne k (by omega) (fun e1 => ?_) e.symm
      rcases h.ab with e2 | e2
      · rw [hb] at e2; cases e2
      · exact e2 (by rw [hb, e1])
  · rcases hl i hi with hi | rfl
    · rw [g1 i hi]
      cases hb : ((la ++ lo).getD i undef).ownBlock with
      | none => exact .inl rfl
      | some k =>
        obtain ⟨r1, r2, r3⟩ := rown i hi k hb
        refine .inr ⟨?_, fun e => hgne k (by omega) r1 (by injection e with e; exact e.symm)⟩
        rcases h.ra i hi with e1 | e1
        · rw [hb] at e1; cases e1
        · rw [← hb]; exact e1.1
    · rw [g2]
      cases hb : v.ownBlock with
      | none => exact .inl rfl
      | some k =>
        refine .inr ⟨fun e => ?_, fun e => hgne k (hvb k hb).2 (vne k hb) (by injection e with e; exact e.symm)⟩
        have := (ownsRow_lt h.oa e.symm).2
        have := (hvb k hb).1
        omega
  · have hne : ∀ i, i < mem.length → ((la ++ lo).getD i undef).ownBlock = none ∨ ((la ++ lo).getD i undef).ownBlock ≠ v.ownBlock := fun i hi => by
      cases hb : ((la ++ lo).getD i undef).ownBlock with
      | none => exact .inl rfl
      | some k =>
        refine .inr (fun e => ?_)
        have := (rown i hi k hb).2.1
        have := (hvb k e.symm).1
        omega
    rcases hl i hi with hi | rfl
    · rcases hl j hj with hj | rfl
      · rw [g1 i hi, g1 j hj]; exact h.rr i j hi hj hij
      · rw [g1 i hi, g2]; exact hne i hi
    · rcases hl j hj with hj | rfl
      · rw [g1 j hj, g2]
        cases hb : v.ownBlock with
        | none => exact .inl rfl
        | some k =>
          refine .inr (fun e => ?_)
          have := (rown j hj k e.symm).2.1
          have := (hvb k hb).1
          omega
      · exact absurd rfl hij
/-- what a push leaves alone -/
theorem push_old {c : Nat} {u x : Value} (hB : Below w.heap.size w V) (hg : V.grownBy w2 x.ownBlock) {k : Nat} (hk : k < w.heap.size) (hn : x.ownBlock ≠ some k) (h3 : k ≠ N + 3) : (w2.setCell ⟨N + 3, c, none⟩ u).heap[k]? = w.heap[k]? :=
  (Below.heap_setCell _ _ _ _ h3).trans ((hg.block k (Nat.lt_of_lt_of_le hk hB.size) (fun e => hn e.symm)).trans (hB.block k hk))
/-- all rows are laid: a run -/
theorem SetAt.ready {names : List ByteArray} (h : SetAt N W1 n inv w (names.zip (la ++ lo)) va vo la lo mem) (hn : names.length = mem.length) (hw : ∀ r ∈ mem, ∀ x ∈ r, Wd.W x) : RunAt N ⟨N + 2, N, N + 1, la ++ lo, inv⟩ names w (.slice none 0 0) (St.init n mem) := by
  have low : ∀ i, i < mem.length → ∀ k, ((la ++ lo).getD i undef).ownBlock = some k → N + 4 ≤ k := fun i hi k hk => (ownsRow_lt (h.rows i hi) hk).1
  refine ⟨⟨rfl, fun x hx => ?_, fun x hx => ?_, hw, by show (⟨#[]⟩ : ByteArray).size ≤ 9223372036854775807; decide⟩, h.rb, h.rg, h.map, h.len.symm, hn, fun j hj => ownsRow_base (h.rows j hj) (by omega), ⟨rfl, .inl ⟨rfl, rfl⟩⟩, by show N ≤ N + 2; omega, Nat.le_refl _, by show N ≤ N + 1; omega, by show N + 2 ≠ N; omega, by show N + 2 ≠ N + 1; omega, by show N ≠ N + 1; omega, fun j hj => ⟨fun e => ?_, fun e => ?_, fun e => ?_, ?_⟩, h.rr, by simp [Value.ownBlock], by simp [Value.ownBlock], by simp [Value.ownBlock]⟩
  · have : x = 0 := (List.mem_replicate.1 hx).2
    subst this
    exact ⟨by omega, by omega⟩
  · have : x = 0 := by simp [St.init] at hx; exact hx
    subst this
    exact ⟨by omega, by omega⟩
  · have := low j hj _ e; simp at this
  · have := low j hj _ e; simp at this; omega
  · have := low j hj _ e; simp at this
  · cases hb : ((la ++ lo).getD j undef).ownBlock with
    | none => exact .inl rfl
    | some k => exact .inr (by simp [Value.ownBlock])
theorem SetAt.notOurs (h : SetAt N W1 n inv w ml va vo la lo mem) {k : Nat} (hk : k = N + 3 ∨ va.ownBlock = some k ∨ vo.ownBlock = some k) : ¬ Ours ⟨N + 2, N, N + 1, la ++ lo, inv⟩ (.slice none 0 0) k := by
  have h4 : ∀ k, va.ownBlock = some k ∨ vo.ownBlock = some k → N + 4 ≤ k := fun k hk => by
    rcases hk with hk | hk
    · exact (ownsRow_lt h.oa hk).1
    · exact (ownsRow_lt h.oo hk).1
  rintro (e | e | e | ⟨j, hj, e⟩)
  · simp at e; rcases hk with rfl | hk
    · omega
    · have := h4 k hk; omega
  · simp at e; rcases hk with rfl | hk
    · omega
    · have := h4 k hk; omega
  · simp [Value.ownBlock] at e
  · have hjm : j < mem.length := by rw [h.len]; exact hj
    have hr := ownsRow_lt (h.rows j hjm) e
    rcases hk with rfl | hk
    · omega
    · rcases h.ra j hjm with e1 | e1
      · rw [e] at e1; cases e1
      · rcases hk with hk | hk
        · exact e1.1 (by rw [e, hk])
        · exact e1.2 (by rw [e, hk])
theorem six_set {b : Nat} {t : TypeId} {a0 a1 a2 a3 a4 a5 v0 v1 v2 v3 v4 v5 : Value} (h : w.heap[b]? = some (.cells #[a0, a1, a2, a3, a4, a5] t)) :
    ((((((w.setCell ⟨b, 0, none⟩ v0).setCell ⟨b, 1, none⟩ v1).setCell ⟨b, 2, none⟩ v2).setCell ⟨b, 3, none⟩ v3).setCell ⟨b, 4, none⟩ v4).setCell ⟨b, 5, none⟩ v5).heap[b]? = some (.cells #[v0, v1, v2, v3, v4, v5] t) := by
  have h0 := setCell_heap (i := 0) (v := v0) h
  have h1 := setCell_heap (i := 1) (v := v1) h0
  have h2 := setCell_heap (i := 2) (v := v2) h1
  have h3 := setCell_heap (i := 3) (v := v3) h2
  have h4 := setCell_heap (i := 4) (v := v4) h3
  have h5 := setCell_heap (i := 5) (v := v5) h4
  simpa using h5
theorem six_below {B b : Nat} {a : World} {v0 v1 v2 v3 v4 v5 : Value} (h : Below B a w) (hb : B ≤ b) :
    Below B a ((((((w.setCell ⟨b, 0, none⟩ v0).setCell ⟨b, 1, none⟩ v1).setCell ⟨b, 2, none⟩ v2).setCell ⟨b, 3, none⟩ v3).setCell ⟨b, 4, none⟩ v4).setCell ⟨b, 5, none⟩ v5) :=
  (((((h.setCell hb _).setCell hb _).setCell hb _).setCell hb _).setCell hb _).setCell hb _
theorem six_other {b k : Nat} {v0 v1 v2 v3 v4 v5 : Value} (hk : k ≠ b) :
    ((((((w.setCell ⟨b, 0, none⟩ v0).setCell ⟨b, 1, none⟩ v1).setCell ⟨b, 2, none⟩ v2).setCell ⟨b, 3, none⟩ v3).setCell ⟨b, 4, none⟩ v4).setCell ⟨b, 5, none⟩ v5).heap[k]? = w.heap[k]? := by
  rw [Below.heap_setCell _ _ _ _ hk, Below.heap_setCell _ _ _ _ hk, Below.heap_setCell _ _ _ _ hk, Below.heap_setCell _ _ _ _ hk, Below.heap_setCell _ _ _ _ hk, Below.heap_setCell _ _ _ _ hk]
end
theorem Tryd.infoRow : (Tryd.prog.info? 66).map (fun i => (i.zero, i.size, i.bytes)) = some (some (.slice none 0 0), 1, 24) := by kernel_rfl
theorem one_new (w : World) (u : Value) : ∀ (j : Nat) (x : Value), [u][j]? = some x → (w.alloc (.cells #[u] 66)).cell? ((⟨w.heap.size, 0, none⟩ : Addr).add j) = some x := by
  intro j x hx
  match j, hx with
  | 0, hx => cases hx; exact World.cell?_alloc_new _ _ _ 0
theorem make_run (n : Nat) (hn : n ≤ 10000) (w : World) : (Instr.makeSlice 66 (.int .i64 (n : Int)) (.int .i64 (n : Int))).run Tryd.prog w = .ok (.slice (some ⟨w.heap.size, 0, none⟩) n n) (w.alloc (.cells (w32 (List.replicate n 0)).toArray 21)) := by
  obtain ⟨i0, hi, hz0, hz1, hz2⟩ := info_parts Tryd.infoI32
  rw [run_make w 66 21 i0 _ Tryd.underlying66 hi hz0 .i64 .i64 n n (by omega) (by omega) (by rw [hz2]; omega) (by omega)]
  have e : madeCells (Value.int .i32 0).cells (((n : Int)).toNat * i0.size) = (w32 (List.replicate n 0)).toArray := by
    rw [hz1, Int.toNat_natCast, Nat.mul_one]
    apply Array.toList_inj.1
    rw [show (Value.int .i32 0).cells = #[Value.int .i32 0] from rfl, toList_madeCells_one]
    simp [w32]
  rw [e, Int.toNat_natCast]
end Go.Proofs.YteknhnnlhhgppaaDoor
