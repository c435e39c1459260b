/-
  Rows of nodes that a statement builds by appending, beside new boxes: what is known of the memory in between. No function of the program is walked here.
-/
import Derived.Test.YtfkegjdgbnkicaaDoorRoundBox
import Derived.Test.YtfkegjdgbnkicaaDoorAstAt
import Derived.Test.YtfkegjdgbnkicaaDoorAppend
namespace Go.Proofs.YtfkegjdgbnkicaaDoor
open Go.RowKit

/-- a node's box, and all that was there -/
structure PartS (t : Tree) (a : Option Addr) (c N : Nat) (W w' : World) : Prop where
  box : w'.heap[N]? = some (boxObj t a c)
  bel : Below W.heap.size W w'
  lt : N < W.heap.size
theorem PartS.next {t : Tree} {a : Option Addr} {c N : Nat} {W w1 w2 : World} (h : PartS t a c N W w1) (hB : Below w1.heap.size w1 w2) : PartS t a c N W w2 :=
  ⟨(hB.block _ (Array.getElem?_eq_some_iff.1 h.box).1).trans h.box, h.bel.trans (hB.mono h.bel.size), h.lt⟩

/-- the state in the midst of such a statement: the row so far, the blocks laid beside it -/
structure PartSt (t : Tree) (a : Option Addr) (c N : Nat) (W w' : World) (v : Value) (n : Nat) (xs : List Value) (bs : List (Nat × Obj)) : Prop where
  ps : PartS t a c N W w'
  own : w'.ownsRow W.heap.size 24 4 v n xs
  blk : ∀ p ∈ bs, w'.heap[p.1]? = some p.2 ∧ W.heap.size ≤ p.1 ∧ v.ownBlock ≠ some p.1

section
variable {t : Tree} {a : Option Addr} {c N : Nat} {W w' : World} {v : Value} {n : Nat} {xs : List Value} {bs : List (Nat × Obj)}
theorem PartSt.begin (h : PartS t a c N W w') : PartSt t a c N W w' (.slice none 0 0) 0 [] [] :=
  ⟨h, ⟨rfl, .inl ⟨rfl, rfl⟩⟩, fun p hp => by cases hp⟩
theorem own_lt {base : Nat} {e : TypeId} {size g : Nat} (h : w'.ownsRow base e size v n xs) (hg : v.ownBlock = some g) : base ≤ g ∧ g < w'.heap.size := by
  rcases ownsRow_form h with ⟨rfl, _⟩ | ⟨g', cap, rfl, h1, h2, _⟩
  · cases hg
  · have : g' = g := by simpa [Value.ownBlock] using hg
    subst this; exact ⟨h1, h2⟩
theorem own_slice {base : Nat} {e : TypeId} {size : Nat} (h : w'.ownsRow base e size v n xs) : ∃ ra rc, v = .slice ra n rc := by
  rcases ownsRow_form h with ⟨rfl, rfl⟩ | ⟨g, cap, rfl, _⟩
  · exact ⟨none, 0, rfl⟩
  · exact ⟨_, _, rfl⟩
theorem PartSt.alloc (h : PartSt t a c N W w' v n xs bs) (o : Obj) : PartSt t a c N W (w'.alloc o) v n xs ((w'.heap.size, o) :: bs) := by
  refine ⟨h.ps.next ((Below.refl _ _).alloc (Nat.le_refl _) _), h.own.alloc o, fun p hp => ?_⟩
  rcases List.mem_cons.1 hp with rfl | hp
  · exact ⟨World.alloc_heap_new w' o, h.ps.bel.size, fun e => by have := (own_lt h.own e).2; omega⟩
  · obtain ⟨h1, h2, h3⟩ := h.blk p hp
    exact ⟨(Below.heap_alloc _ _ _ (Array.getElem?_eq_some_iff.1 h1).1).trans h1, h2, h3⟩
theorem PartSt.start (h : PartSt t a c N W w' (.slice none 0 0) 0 [] bs) : PartSt t a c N W (w'.alloc (.cells #[] 24)) (.slice (some ⟨w'.heap.size, 0, none⟩) 0 0) 0 [] bs := by
  refine ⟨h.ps.next ((Below.refl _ _).alloc (Nat.le_refl _) _), World.ownsRow_lit w' #[] 0 h.ps.bel.size (by unfold maxLen; omega) rfl, fun p hp => ?_⟩
  obtain ⟨h1, h2, h3⟩ := h.blk p hp
  have hlt := (Array.getElem?_eq_some_iff.1 h1).1
  exact ⟨(Below.heap_alloc _ _ _ hlt).trans h1, h2, fun e => by have : w'.heap.size = p.1 := by simpa [Value.ownBlock] using e
                                                                omega⟩
theorem PartSt.grow {w2 : World} {v' : Value} {n' : Nat} {xs' : List Value} (h : PartSt t a c N W w' v n xs bs) (h1 : w2.ownsRow W.heap.size 24 4 v' n' xs') (h2 : w'.grownBy w2 v.ownBlock)
    (h3 : v'.ownBlock = v.ownBlock ∨ v'.ownBlock = some w'.heap.size) : PartSt t a c N W w2 v' n' xs' bs := by
  have hb : ∀ k, k < W.heap.size → w2.heap[k]? = w'.heap[k]? := fun k hk => h2.block k (Nat.lt_of_lt_of_le hk h.ps.bel.size) (fun e => by have := (own_lt h.own e.symm).1; omega)
  refine ⟨⟨(hb N h.ps.lt).trans h.ps.box, ⟨h2.os.trans h.ps.bel.os, h2.tape.trans h.ps.bel.tape, h2.output.trans h.ps.bel.output, Nat.le_trans h.ps.bel.size h2.size, fun k hk => (hb k hk).trans (h.ps.bel.block k hk)⟩, h.ps.lt⟩, h1, fun p hp => ?_⟩
  obtain ⟨q1, q2, q3⟩ := h.blk p hp
  have hlt := (Array.getElem?_eq_some_iff.1 q1).1
  refine ⟨(h2.block _ hlt (fun e => q3 e.symm)).trans q1, q2, ?_⟩
  rcases h3 with h3 | h3 <;> rw [h3]
  · exact q3
  · intro e; have : w'.heap.size = p.1 := by simpa using e
    omega
theorem own_put {base : Nat} {e : TypeId} {size Y : Nat} {y0 y1 y2 y3 : Value} (h : w'.ownsRow base e size v n xs) (hne : v.ownBlock ≠ some Y) : (set4 w' Y y0 y1 y2 y3).ownsRow base e size v n xs := by
  obtain ⟨h1, h2⟩ := h
  refine ⟨h1, ?_⟩
  rcases h2 with h2 | ⟨g, cap, cur, rfl, hg, hc, r⟩
  · exact .inl h2
  · exact .inr ⟨g, cap, cur, rfl, hg, (set4_other (fun e => hne (by rw [← e]; rfl))).trans hc, r⟩
/-- the box filled: what such a statement leaves -/
structure PartEnd (t : Tree) (a : Option Addr) (c N : Nat) (W w' : World) (v : Value) (n : Nat) (xs : List Value) (Y : Nat) : Prop where
  ps : PartS t a c N W w'
  own : w'.ownsRow W.heap.size 24 4 v n xs
  new : w'.heap[Y]? = some (.cells #[.int .u8 47, .int .i64 0, .string ⟨#[]⟩, v] 24)
  ge : W.heap.size ≤ Y
theorem PartSt.put {Y : Nat} (h : PartSt t a c N W w' v n xs bs) (hm : (Y, (.cells #[.int .u8 0, .int .i64 0, .string ⟨#[]⟩, .slice none 0 0] 24 : Obj)) ∈ bs) :
    PartEnd t a c N W (set4 w' Y (.int .u8 47) (.int .i64 0) (.string ⟨#[]⟩) v) v n xs Y := by
  obtain ⟨q1, q2, q3⟩ := h.blk _ hm
  have hlt := h.ps.lt
  exact ⟨⟨(set4_other (by omega)).trans h.ps.box, set4_below h.ps.bel q2, h.ps.lt⟩, own_put h.own q3, set4_at q1, q2⟩
theorem PartSt.putNew (h : PartSt t a c N W w' v n xs bs) : PartEnd t a c N W (w'.alloc (.cells #[.int .u8 47, .int .i64 0, .string ⟨#[]⟩, v] 24)) v n xs w'.heap.size :=
  ⟨h.ps.next ((Below.refl _ _).alloc (Nat.le_refl _) _), h.own.alloc _, World.alloc_heap_new _ _, h.ps.bel.size⟩
end

theorem addr_add (b o j : Nat) : (⟨b, o, none⟩ : Addr).add j = ⟨b, o + j, none⟩ := by
  unfold Addr.add; split <;> simp_all
/-- two rows of nodes, one behind the other -/
theorem rowsTo_app (kid : Nat → Tree) (x : Nat → Option Addr × Nat) (n m : Nat) : rowsTo kid x n ++ rowsTo (fun i => kid (n + i)) (fun i => x (n + i)) m = rowsTo kid x (n + m) := by
  induction m with
  | zero => simp [rowsTo]
  | succ m ih => rw [← Nat.add_assoc]; simp only [rowsTo]; rw [← List.append_assoc, ih]
theorem rowsTo_same {kid kid' : Nat → Tree} {x y : Nat → Option Addr × Nat} {n : Nat} (h : ∀ i, i < n → kid i = kid' i ∧ x i = y i) : rowsTo kid x n = rowsTo kid' y n := by
  induction n with
  | zero => rfl
  | succ n ih => simp only [rowsTo]; rw [ih (fun i hi => h i (by omega)), (h n (by omega)).1, (h n (by omega)).2]
theorem rowsTo_one {kid : Nat → Tree} {x : Nat → Option Addr × Nat} {n : Nat} : ∀ u ∈ rowsTo kid x n, u.oneCell' = true := by
  induction n with
  | zero => intro u hu; cases hu
  | succ n ih => intro u hu; rcases List.mem_append.1 hu with hu | hu
                 · exact ih u hu
                 · exact row_one _ _ u hu
/-- the children of a node in memory, a stretch of them -/
theorem kids_cells {w : World} {t : Tree} {b off : Nat} {x : Nat → Option Addr × Nat} (h : ∀ i, i < t.len → NodeAt w b (off + i * 4) (t.kid i) (x i).1 (x i).2) {lo m : Nat} (hm : lo + m ≤ t.len) :
    ∀ j u, (rowsTo (fun i => t.kid (lo + i)) (fun i => x (lo + i)) m)[j]? = some u → w.cell? ((⟨b, off + lo * 4, none⟩ : Addr).add j) = some u := by
  intro j u hu
  have hj : j < m * 4 := by have := (List.getElem?_eq_some_iff.1 hu).1; rwa [rowsTo_len] at this
  obtain ⟨i, d, rfl, hd⟩ : ∃ i d, j = i * 4 + d ∧ d < 4 := ⟨j / 4, j % 4, by omega, by omega⟩
  rw [rowsTo_at _ _ (by omega) d hd] at hu
  have hn := h (lo + i) (by omega)
  have hadd : (⟨b, off + lo * 4, none⟩ : Addr).add (i * 4 + d) = ⟨b, off + (lo + i) * 4 + d, none⟩ := by
    rw [addr_add]; congr 1; omega
  rw [hadd]
  match d, hd with
  | 0, _ => simp [Tree.row] at hu; subst hu; exact hn.kind
  | 1, _ => simp [Tree.row] at hu; subst hu; exact hn.num
  | 2, _ => simp [Tree.row] at hu; subst hu; exact hn.name
  | 3, _ => simp [Tree.row] at hu; subst hu; exact hn.kids
theorem PartS.kids {t : Tree} {a : Option Addr} {c N b off : Nat} {W w' : World} {x : Nat → Option Addr × Nat} (h : PartS t a c N W w') (hk : ∀ i, i < t.len → NodeAt W b (off + i * 4) (t.kid i) (x i).1 (x i).2) :
    ∀ i, i < t.len → NodeAt w' b (off + i * 4) (t.kid i) (x i).1 (x i).2 := fun i hi => (hk i hi).below h.bel (hk i hi).lt
theorem src_cells {w : World} {g : Nat} {u : Tree} {x : Option Addr × Nat} (h : w.heap[g]? = some (.cells #[.int .u8 u.kind, .int .i64 u.num, .string u.name, .slice x.1 u.len x.2] 24)) :
    ∀ j v, (rowsTo (fun _ => u) (fun _ => x) 1)[j]? = some v → w.cell? ((⟨g, 0, none⟩ : Addr).add j) = some v := by
  intro j v hv
  have hj : j < 4 := by have := (List.getElem?_eq_some_iff.1 hv).1; simpa [rowsTo_len] using this
  rw [addr_add, World.cell?]
  simp only [h]
  match j, hj with
  | 0, _ => simpa [rowsTo, Tree.row] using hv
  | 1, _ => simpa [rowsTo, Tree.row] using hv
  | 2, _ => simpa [rowsTo, Tree.row] using hv
  | 3, _ => simpa [rowsTo, Tree.row] using hv
/-- a row of nodes is a block's children -/
theorem rep_of_row {w : World} {base n : Nat} {v : Value} {f : Nat → Tree} {x : Nat → Option Addr × Nat} (h : w.ownsRow base 24 4 v n (rowsTo f x n)) (hr : ∀ i, i < n → Rep w (f i) (x i).1) (hn : n ≤ 1000000) :
    ∃ a c, v = .slice a n c ∧ Rep w (Tree.make 47 0 ⟨#[]⟩ n f) a := by
  have hf : (Tree.make 47 0 ⟨#[]⟩ n f).Fits := ⟨⟨by show (0 : Int) ≤ 47; decide, by show (47 : Int) ≤ 255; decide⟩, ⟨by show _ ≤ (0 : Int); decide, by show (0 : Int) ≤ _; decide⟩, by show 0 ≤ _; omega, by show n ≤ _; omega⟩
  rcases ownsRow_form h with ⟨rfl, rfl⟩ | ⟨g, cap, rfl, hg, hlt, hc⟩
  · exact ⟨none, 0, rfl, Rep.mk hf (.inl rfl)⟩
  · refine ⟨_, _, rfl, Rep.mk hf (.inr ⟨g, 0, rfl, fun i hi => ⟨(x i).1, (x i).2, ?_, ?_⟩⟩)⟩
    · have hi' : i < n := hi
      have hc : ∀ d, d < 4 → ∀ u, ((f i).row (x i))[d]? = some u → w.cell? ⟨g, 0 + i * 4 + d, none⟩ = some u := by
        intro d hd u hu
        have := h.cells (g := g) rfl (i * 4 + d) u (by rw [rowsTo_at _ _ hi' d hd]; exact hu)
        have hadd : (⟨g, 0, none⟩ : Addr).add (i * 4 + d) = ⟨g, 0 + i * 4 + d, none⟩ := by
          rw [addr_add]; congr 1; omega
        rwa [hadd] at this
      have hk : (Tree.make 47 0 ⟨#[]⟩ n f).kid i = f i := Tree.make_kid hi'
      rw [hk]
      exact ⟨hc 0 (by omega) _ rfl, hc 1 (by omega) _ rfl, hc 2 (by omega) _ rfl, hc 3 (by omega) _ rfl⟩
    · have hk : (Tree.make 47 0 ⟨#[]⟩ n f).kid i = f i := Tree.make_kid hi
      rw [hk]; exact hr i hi
end Go.Proofs.YtfkegjdgbnkicaaDoor
