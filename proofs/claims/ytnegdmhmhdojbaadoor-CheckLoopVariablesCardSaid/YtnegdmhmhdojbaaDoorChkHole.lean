/-
  A place in a tree whose rows lie apart: what is put there stands in the whole tree. No program is named here.
-/
import Derived.Test.YtnegdmhmhdojbaaDoorChkSep
namespace Go.Proofs.YtnegdmhmhdojbaaDoor
set_option linter.unusedVariables false
set_option linter.unusedSimpArgs false
open Go.RowKit
set_option maxRecDepth 100000

/-- a child replaced -/
def setKid (t : Tree) (i : Nat) (v : Tree) : Tree := Tree.make t.kind t.num t.name t.len (fun j => if j = i then v else t.kid j)
/-- a child more -/
def addKid (u s : Tree) : Tree := Tree.make u.kind u.num u.name (u.len + 1) (fun i => if i < u.len then u.kid i else s)
/-- the node at a path replaced -/
def repAt : Tree → List Int → Tree → Tree
  | _, [], v => v
  | t, i :: q, v => setKid t i.toNat (repAt (t.kid i.toNat) q v)
theorem repAt_snoc : ∀ (q : List Int) (t u : Tree) (i : Int) (v : Tree), t.at q = some u → repAt t (q ++ [i]) v = repAt t q (setKid u i.toNat v)
  | [], t, u, i, v, h => by cases h; rfl
  | j :: q, t, u, i, v, h => by
    rw [Tree.at] at h
    split at h
    · show setKid t j.toNat (repAt (t.kid j.toNat) (q ++ [i]) v) = setKid t j.toNat _
      rw [repAt_snoc q (t.kid j.toNat) u i v h]
    · cases h
section
variable {w w3 : World} {S S0 : Nat → Prop} {t u : Tree} {a : Option Addr} {c b o b0 o0 : Nat} {q : List Int}
theorem SepIn.parts (h : SepIn w S t a c) : ∃ (x : Nat → Option Addr × Nat) (K : Nat → Nat → Prop), t.Fits ∧ w.ownsRow 0 43 4 (.slice a t.len c) t.len (rowsTo t.kid x t.len) ∧
    (∀ k, (Value.slice a t.len c).ownBlock = some k → S k ∧ ∀ i, i < t.len → ¬ K i k) ∧ (∀ i, i < t.len → SepIn w (K i) (t.kid i) (x i).1 (x i).2) ∧ (∀ i, i < t.len → ∀ k, K i k → S k) ∧ ∀ i j, i < t.len → j < t.len → i ≠ j → ∀ k, K i k → ¬ K j k := by
  cases h with
  | mk' x K fits own blk kids sub dis => exact ⟨x, K, fits, own, blk, kids, sub, dis⟩
theorem row_node {kid : Nat → Tree} {x : Nat → Option Addr × Nat} {g n m cap i : Nat} (h : w.ownsRow 0 43 4 (.slice (some ⟨g, 0, none⟩) m cap) n (rowsTo kid x n)) (hi : i < n) : NodeAt w g (i * 4) (kid i) (x i).1 (x i).2 :=
  ⟨own_get h (rowsTo_at kid x hi 0 (by omega)), own_get h (rowsTo_at kid x hi 1 (by omega)), own_get h (rowsTo_at kid x hi 2 (by omega)), own_get h (rowsTo_at kid x hi 3 (by omega))⟩
theorem NodeAt.cells {t : Tree} (h : NodeAt w b o t a c) (h4 : ∀ j, o ≤ j → j < o + 4 → w3.cell? ⟨b, j, none⟩ = w.cell? ⟨b, j, none⟩) : NodeAt w3 b o t a c :=
  ⟨(h4 o (by omega) (by omega)).trans h.kind, (h4 (o + 1) (by omega) (by omega)).trans h.num, (h4 (o + 2) (by omega) (by omega)).trans h.name, (h4 (o + 3) (by omega) (by omega)).trans h.kids⟩
theorem SepIn.rep3 (h : SepIn w S t a c) : (∀ k j, S k → k < w.heap.size → w3.cell? ⟨k, j, none⟩ = w.cell? ⟨k, j, none⟩) → Rep w3 t a := by
  induction h with
  | @mk' S t a c x K fits own blk kids sub dis ih =>
    intro hb
    refine Rep.mk fits ?_
    by_cases h0 : t.len = 0
    · exact .inl h0
    · obtain ⟨g, rfl, _, hg⟩ := own_at own (by omega)
      refine .inr ⟨g, 0, rfl, fun i hi => ⟨(x i).1, (x i).2, ?_, ih i hi (fun k j hk hl => hb k j (sub i hi k hk) hl)⟩⟩
      rw [Nat.zero_add]
      exact (row_node own hi).cells (fun j _ _ => hb g j (blk g rfl).1 hg)
theorem row_frzn {N : Nat} {e : TypeId} {size g m n c : Nat} {xs : List Value} (h : w.ownsRow N e size (.slice (some ⟨g, 0, none⟩) m c) n xs) (i : Nat) : w.frozen? ⟨g, i, none⟩ = false := by
  rcases h.2 with ⟨h1, _⟩ | ⟨g', cap, cur, hv, _, hc, _⟩
  · cases h1
  · cases hv
    simp [World.frozen?, hc]
/-- the place in a tree -/
structure Hole (w : World) (S0 : Nat → Prop) (b0 o0 : Nat) (t : Tree) (q : List Int) (u : Tree) (b o : Nat) (a : Option Addr) (c : Nat) (S : Nat → Prop) : Prop where
  at_ : t.at q = some u
  node : NodeAt w b o u a c
  sep : SepIn w S u a c
  out : ¬ S b
  free : ∀ j, w.frozen? ⟨b, j, none⟩ = false
  pos : (b = b0 ∧ o = o0) ∨ S0 b
  sub : ∀ k, S k → S0 k
  fill : ∀ (w3 : World) (v : Tree) (a3 : Option Addr) (c3 : Nat), (∀ k j, k < w.heap.size → ¬ S k → ¬ (k = b ∧ j = o + 3) → w3.cell? ⟨k, j, none⟩ = w.cell? ⟨k, j, none⟩) → NodeAt w3 b o v a3 c3 → Rep w3 v a3 →
    ∃ a4 c4, NodeAt w3 b0 o0 (repAt t q v) a4 c4 ∧ Rep w3 (repAt t q v) a4
theorem Hole.nil (hs : SepIn w S0 t a c) (hn : NodeAt w b0 o0 t a c) (ho : ¬ S0 b0) (hf : ∀ j, w.frozen? ⟨b0, j, none⟩ = false) : Hole w S0 b0 o0 t [] t b0 o0 a c S0 :=
  ⟨rfl, hn, hs, ho, hf, .inl ⟨rfl, rfl⟩, fun _ h => h, fun w3 v a3 c3 _ h1 h2 => ⟨a3, c3, h1, h2⟩⟩
theorem setKid_fits {i : Nat} {v : Tree} (h : u.Fits) : (setKid u i v).Fits := ⟨h.kind, h.num, h.name, h.len⟩
theorem Hole.step {i : Nat} (h : Hole w S0 b0 o0 t q u b o a c S) (hi : i < u.len) : ∃ (g : Nat) (ai : Option Addr) (ci : Nat) (S' : Nat → Prop), a = some ⟨g, 0, none⟩ ∧ g < w.heap.size ∧ Hole w S0 b0 o0 t (q ++ [(i : Int)]) (u.kid i) g (i * 4) ai ci S' := by
  obtain ⟨x, K, fits, own, blk, kids, sub, dis⟩ := h.sep.parts
  obtain ⟨g, rfl, _, hg⟩ := own_at own (by omega)
  obtain ⟨hSg, hKg⟩ := blk g rfl
  have hgb : g ≠ b := fun e => h.out (by rw [← e]; exact hSg)
  refine ⟨g, (x i).1, (x i).2, K i, rfl, hg, ⟨?_, row_node own hi, kids i hi, hKg i hi, row_frzn own, .inr (h.sub g hSg), fun k hk => h.sub k (sub i hi k hk), fun w3 v a3 c3 hfr hn3 hr3 => ?_⟩⟩
  · rw [Tree.at_snoc, h.at_]
    show (if 0 ≤ (i : Int) ∧ (i : Int) < (u.len : Int) then some (u.kid (i : Int).toNat) else none) = _
    rw [if_pos ⟨by omega, by omega⟩]
    rfl
  · rw [repAt_snoc q t u i v h.at_]
    refine h.fill w3 (setKid u (i : Int).toNat v) (some ⟨g, 0, none⟩) c (fun k j hk hS _ => hfr k j hk (fun hKi => hS (sub i hi k hKi)) (fun e => hS (by rw [e.1]; exact hSg))) ?_ ?_
    · have hb : b < w.heap.size := h.node.lt
      have hcell : ∀ j, w3.cell? ⟨b, j, none⟩ = w.cell? ⟨b, j, none⟩ := fun j => hfr b j hb (fun hKi => h.out (sub i hi b hKi)) (fun e => hgb e.1.symm)
      exact ⟨(hcell _).trans h.node.kind, (hcell _).trans h.node.num, (hcell _).trans h.node.name, (hcell _).trans h.node.kids⟩
    · refine Rep.mk (setKid_fits fits) (.inr ⟨g, 0, rfl, fun j hj => ?_⟩)
      have hj : j < u.len := hj
      rw [Nat.zero_add]
      have e : (setKid u (i : Int).toNat v).kid j = if j = i then v else u.kid j := Tree.make_kid hj
      rw [e]
      by_cases hij : j = i
      · rw [if_pos hij, hij]
        exact ⟨a3, c3, hn3, hr3⟩
      · rw [if_neg hij]
        refine ⟨(x j).1, (x j).2, (row_node own hj).cells (fun m h1 h2 => hfr g m hg (hKg i hi) (fun e => by have := e.2; omega)), (kids j hj).rep3 (fun k m hk hl => hfr k m hl (fun hKi => dis j i hj hi hij k hk hKi) (fun e => hKg j hj (by rw [← e.1]; exact hk)))⟩
/-- one more child put at the place -/
theorem Hole.insert {s : Tree} {sa a9 : Option Addr} {sc c9 : Nat} {x : Nat → Option Addr × Nat} {K : Nat → Nat → Prop} (h : Hole w S0 b0 o0 t q u b o a c S)
    (blk : ∀ k, (Value.slice a u.len c).ownBlock = some k → S k ∧ ∀ i, i < u.len → ¬ K i k) (kids : ∀ i, i < u.len → SepIn w (K i) (u.kid i) (x i).1 (x i).2) (sub : ∀ i, i < u.len → ∀ k, K i k → S k) (hl : u.len ≤ 1000000)
    (hfr : ∀ k j, k < w.heap.size → (Value.slice a u.len c).ownBlock ≠ some k → ¬ (k = b ∧ j = o + 3) → w3.cell? ⟨k, j, none⟩ = w.cell? ⟨k, j, none⟩)
    (hrow : w3.ownsRow 0 43 4 (.slice a9 (u.len + 1) c9) (u.len + 1) (rowsTo u.kid x u.len ++ s.row (sa, sc))) (hcell : w3.cell? ⟨b, o + 3, none⟩ = some (.slice a9 (u.len + 1) c9)) (hs : Rep w3 s sa) :
    ∃ a4 c4, NodeAt w3 b0 o0 (repAt t q (addKid u s)) a4 c4 ∧ Rep w3 (repAt t q (addKid u s)) a4 := by
  have hb : b < w.heap.size := h.node.lt
  have hbo : ∀ k, (Value.slice a u.len c).ownBlock = some k → k ≠ b := fun k hk e => h.out (by rw [← e]; exact (blk k hk).1)
  have hfit := h.sep.fits
  refine h.fill w3 (addKid u s) a9 c9 (fun k j hk hS he => hfr k j hk (fun e => hS (blk k e).1) he) ⟨?_, ?_, ?_, hcell⟩ ?_
  · exact (hfr b o hb (fun e => hbo b e rfl) (fun e => by have := e.2; omega)).trans h.node.kind
  · exact (hfr b (o + 1) hb (fun e => hbo b e rfl) (fun e => by have := e.2; omega)).trans h.node.num
  · exact (hfr b (o + 2) hb (fun e => hbo b e rfl) (fun e => by have := e.2; omega)).trans h.node.name
  · obtain ⟨g9, rfl, _, _⟩ := own_at hrow (by omega)
    refine Rep.mk ⟨hfit.kind, hfit.num, hfit.name, by show u.len + 1 ≤ _; omega⟩ (.inr ⟨g9, 0, rfl, fun i hi => ?_⟩)
    have hi : i < u.len + 1 := hi
    rw [Nat.zero_add]
    have e : (addKid u s).kid i = if i < u.len then u.kid i else s := Tree.make_kid hi
    rw [e]
    have hlen := rowsTo_len u.kid x u.len
    by_cases hlt : i < u.len
    · rw [if_pos hlt]
      have key : ∀ d v, d < 4 → ((u.kid i).row (x i))[d]? = some v → w3.cell? ⟨g9, i * 4 + d, none⟩ = some v := fun d v hd hv => own_get hrow (by rw [List.getElem?_append_left (by omega), rowsTo_at u.kid x hlt d hd, hv])
      refine ⟨(x i).1, (x i).2, ⟨key 0 _ (by omega) rfl, key 1 _ (by omega) rfl, key 2 _ (by omega) rfl, key 3 _ (by omega) rfl⟩, (kids i hlt).rep3 (fun k j hk hl => hfr k j hl (fun e => (blk k e).2 i hlt hk) (fun e => h.out (by rw [← e.1]; exact sub i hlt k hk)))⟩
    · obtain rfl : i = u.len := by omega
      rw [if_neg hlt]
      have key : ∀ d v, d < 4 → (s.row (sa, sc))[d]? = some v → w3.cell? ⟨g9, u.len * 4 + d, none⟩ = some v := fun d v hd hv => own_get hrow (by rw [List.getElem?_append_right (by omega), hlen, Nat.add_sub_cancel_left, hv])
      exact ⟨sa, sc, ⟨key 0 _ (by omega) rfl, key 1 _ (by omega) rfl, key 2 _ (by omega) rfl, key 3 _ (by omega) rfl⟩, hs⟩
theorem cell_heap_eq {w w' : World} {k j : Nat} (h : w'.heap[k]? = w.heap[k]?) : w'.cell? ⟨k, j, none⟩ = w.cell? ⟨k, j, none⟩ := by
  unfold World.cell?
  simp only [h]
theorem froz_heap_eq {w w' : World} {k j : Nat} (h : w'.heap[k]? = w.heap[k]?) : w'.frozen? ⟨k, j, none⟩ = w.frozen? ⟨k, j, none⟩ := by
  unfold World.frozen?
  simp only [h]
theorem SepIn.lt (h : SepIn w S t a c) : SepIn w (fun k => S k ∧ k < w.heap.size) t a c := by
  induction h with
  | @mk' S t a c x K fits own blk kids sub dis ih =>
    exact .mk' x (fun i k => K i k ∧ k < w.heap.size) fits own (fun k hk => ⟨⟨(blk k hk).1, (own_lt own hk).2⟩, fun i hi h => (blk k hk).2 i hi h.1⟩) ih (fun i hi k hk => ⟨sub i hi k hk.1, hk.2⟩) (fun i j hi hj hij k hk hk' => dis i j hi hj hij k hk.1 hk'.1)
theorem Hole.below {w' : World} (h : Hole w S0 b0 o0 t q u b o a c S) (hB : Below w.heap.size w w') (hS : ∀ k, S k → k < w.heap.size) : Hole w' S0 b0 o0 t q u b o a c S := by
  have hb : b < w.heap.size := h.node.lt
  refine ⟨h.at_, h.node.below hB hb, h.sep.move (fun k hk => hB.block k (hS k hk)) (fun _ hk => hk), h.out, fun j => (froz_heap_eq (hB.block b hb)).trans (h.free j), h.pos, h.sub, fun w3 v a3 c3 hfr h1 h2 => h.fill w3 v a3 c3 (fun k j hk hSk he => ?_) h1 h2⟩
  exact (hfr k j (Nat.lt_of_lt_of_le hk hB.size) hSk he).trans (cell_heap_eq (hB.block k hk))
end
end Go.Proofs.YtnegdmhmhdojbaaDoor
