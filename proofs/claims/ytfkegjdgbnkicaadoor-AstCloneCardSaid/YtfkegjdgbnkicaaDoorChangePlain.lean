/-
  A tree in memory that is changed in place: numbers and names turn, the shape stays. No program is named here.
-/
import Derived.Test.YtfkegjdgbnkicaaDoorRefCopy
namespace Go.Proofs.YtfkegjdgbnkicaaDoor
open Go.RowKit

/-- a cell that may have turned: a number, or a name that has grown by at most k bytes -/
def CellLe (k : Nat) (u v : Option Value) : Prop :=
  u = v ∨ (∃ m n : Int, u = some (.int .i64 m) ∧ v = some (.int .i64 n)) ∨ (∃ s s' : ByteArray, u = some (.string s) ∧ v = some (.string s') ∧ s'.size ≤ s.size + k)
theorem CellLe.trans {k l : Nat} {u v x : Option Value} (h : CellLe k u v) (h' : CellLe l v x) : CellLe (k + l) u x := by
  rcases h with rfl | ⟨m, n, rfl, rfl⟩ | ⟨s, s', rfl, rfl, hs⟩
  · rcases h' with rfl | ⟨m', n', rfl, rfl⟩ | ⟨p, p', rfl, rfl, hp⟩
    · exact .inl rfl
    · exact .inr (.inl ⟨m', n', rfl, rfl⟩)
    · exact .inr (.inr ⟨p, p', rfl, rfl, by omega⟩)
  · rcases h' with rfl | ⟨m', n', hm, rfl⟩ | ⟨p, p', hp, _⟩
    · exact .inr (.inl ⟨m, n, rfl, rfl⟩)
    · exact .inr (.inl ⟨m, n', rfl, rfl⟩)
    · cases hp
  · rcases h' with rfl | ⟨m', n', hm, _⟩ | ⟨p, p', hp, rfl, hl⟩
    · exact .inr (.inr ⟨s, s', rfl, rfl, by omega⟩)
    · cases hm
    · cases hp
      exact .inr (.inr ⟨s, p', rfl, rfl, by omega⟩)
/-- only numbers and names in blocks of a kind have turned -/
structure Chg (S : Nat → Prop) (k : Nat) (w w' : World) : Prop where
  keep : Keep S w w'
  cell : ∀ b o, S b → CellLe k (w.cell? ⟨b, o, none⟩) (w'.cell? ⟨b, o, none⟩)
  free : ∀ b, FreeB w b → S b → FreeB w' b
theorem Chg.refl (S : Nat → Prop) (w : World) : Chg S 0 w w := ⟨Keep.refl _ _, fun _ _ _ => .inl rfl, fun _ h _ => h⟩
theorem Chg.trans {S : Nat → Prop} {k l : Nat} {w w1 w2 : World} (h : Chg S k w w1) (h' : Chg S l w1 w2) : Chg S (k + l) w w2 :=
  ⟨h.keep.trans h'.keep, fun b o hb => (h.cell b o hb).trans (h'.cell b o hb), fun b hf hb => h'.free b (h.free b hf hb) hb⟩
theorem chg_set {S : Nat → Prop} {k : Nat} {w : World} {b o : Nat} {u v : Value} (hb : S b) (hu : w.cell? ⟨b, o, none⟩ = some u) (hc : CellLe k (some u) (some v)) : Chg S k w (w.setCell ⟨b, o, none⟩ v) := by
  refine ⟨(Keep.refl _ _).setCell hb _, fun b' o' _ => ?_, fun b' hf _ o' => by rw [World.frozen?_setCell]; exact hf o'⟩
  by_cases e : (⟨b', o', none⟩ : Addr) = ⟨b, o, none⟩
  · rw [e, hu, World.cell?_setCell_same' _ _ _ (by rw [hu]; rfl)]
    exact hc
  · rw [World.cell?_setCell_other _ _ _ _ (fun h => e h.symm)]
    exact .inl rfl
theorem chg_int {S : Nat → Prop} {w : World} {b o : Nat} {m : Int} (n : Int) (hb : S b) (hu : w.cell? ⟨b, o, none⟩ = some (.int .i64 m)) : Chg S 0 w (w.setCell ⟨b, o, none⟩ (.int .i64 n)) :=
  chg_set hb hu (.inr (.inl ⟨m, n, rfl, rfl⟩))
theorem chg_str {S : Nat → Prop} {w : World} {b o : Nat} {s s' : ByteArray} (hb : S b) (hu : w.cell? ⟨b, o, none⟩ = some (.string s)) (hs : s'.size ≤ s.size + 1) : Chg S 1 w (w.setCell ⟨b, o, none⟩ (.string s')) :=
  chg_set hb hu (.inr (.inr ⟨s, s', rfl, rfl, hs⟩))

/-- the shape of a tree at an address, in blocks of a kind that may be written; names of at most B bytes -/
def ShapeAt (S : Nat → Prop) (B : Nat) (w : World) : Tree → Nat → Nat → Prop
  | .node _ _ _ l kid => fun b off => S b ∧ FreeB w b ∧ (∃ m : Int, w.cell? ⟨b, off + 1, none⟩ = some (.int .i64 m)) ∧ (∃ s : ByteArray, w.cell? ⟨b, off + 2, none⟩ = some (.string s) ∧ s.size ≤ B) ∧
      ∃ a c, w.cell? ⟨b, off + 3, none⟩ = some (.slice a l c) ∧ (l = 0 ∨ ∃ b' off', a = some ⟨b', off', none⟩ ∧ ∀ (i : Nat) (h : i < l), ShapeAt S B w (kid ⟨i, h⟩) b' (off' + i * 4))
structure ShapeHas (S : Nat → Prop) (B : Nat) (w : World) (t : Tree) (b off : Nat) (m : Int) (s : ByteArray) (a : Option Addr) (c : Nat) : Prop where
  blk : S b
  free : FreeB w b
  num : w.cell? ⟨b, off + 1, none⟩ = some (.int .i64 m)
  name : w.cell? ⟨b, off + 2, none⟩ = some (.string s)
  le : s.size ≤ B
  kids : w.cell? ⟨b, off + 3, none⟩ = some (.slice a t.len c)
  each : t.len = 0 ∨ ∃ b' off', a = some ⟨b', off', none⟩ ∧ ∀ i, i < t.len → ShapeAt S B w (t.kid i) b' (off' + i * 4)
theorem ShapeAt.has {S : Nat → Prop} {B : Nat} {w : World} {t : Tree} {b off : Nat} (h : ShapeAt S B w t b off) : ∃ m s a c, ShapeHas S B w t b off m s a c := by
  cases t with
  | node k n s l kid =>
    obtain ⟨h1, h2, ⟨m, h3⟩, ⟨s', h4, h5⟩, a, c, h6, h7⟩ := h
    refine ⟨m, s', a, c, h1, h2, h3, h4, h5, h6, ?_⟩
    rcases h7 with h0 | ⟨b', off', ha, hk⟩
    · exact .inl h0
    · exact .inr ⟨b', off', ha, fun i hi => by have hi' : i < l := hi; rw [Tree.kid_node hi']; exact hk i hi'⟩
theorem ShapeHas.at {S : Nat → Prop} {B : Nat} {w : World} {t : Tree} {b off : Nat} {m : Int} {s : ByteArray} {a : Option Addr} {c : Nat} (h : ShapeHas S B w t b off m s a c) : ShapeAt S B w t b off := by
  cases t with
  | node k n s' l kid =>
    refine ⟨h.blk, h.free, ⟨m, h.num⟩, ⟨s, h.name, h.le⟩, a, c, h.kids, ?_⟩
    rcases h.each with h0 | ⟨b', off', ha, hk⟩
    · exact .inl h0
    · exact .inr ⟨b', off', ha, fun i hi => by have := hk i hi; rwa [Tree.kid_node hi] at this⟩
theorem ShapeAt.chg {S : Nat → Prop} {k : Nat} {w w' : World} (hc : Chg S k w w') : ∀ {t : Tree} {B b off : Nat}, ShapeAt S B w t b off → ShapeAt S (B + k) w' t b off := by
  intro t
  induction t using Tree.ind with
  | h t ih =>
    intro B b off h
    obtain ⟨m, s, a, c, h1, h2, h3, h4, h5, h6, h7⟩ := h.has
    have c3 := hc.cell b (off + 1) h1
    have c4 := hc.cell b (off + 2) h1
    have c6 := hc.cell b (off + 3) h1
    rw [h3] at c3
    rw [h4] at c4
    rw [h6] at c6
    obtain ⟨m', hm'⟩ : ∃ m' : Int, w'.cell? ⟨b, off + 1, none⟩ = some (.int .i64 m') := by
      rcases c3 with e | ⟨_, n, _, e⟩ | ⟨_, _, e, _⟩
      · exact ⟨m, e.symm⟩
      · exact ⟨n, e⟩
      · cases e
    obtain ⟨s', hs', hl'⟩ : ∃ s' : ByteArray, w'.cell? ⟨b, off + 2, none⟩ = some (.string s') ∧ s'.size ≤ B + k := by
      rcases c4 with e | ⟨_, _, e, _⟩ | ⟨p, p', e, e', hp⟩
      · exact ⟨s, e.symm, by omega⟩
      · cases e
      · cases e; exact ⟨p', e', by omega⟩
    have hk' : w'.cell? ⟨b, off + 3, none⟩ = some (.slice a t.len c) := by
      rcases c6 with e | ⟨_, _, e, _⟩ | ⟨_, _, e, _⟩
      · exact e.symm
      · cases e
      · cases e
    refine ShapeHas.at ⟨h1, hc.free b h2 h1, hm', hs', hl', hk', ?_⟩
    rcases h7 with h0 | ⟨b', off', ha, hk⟩
    · exact .inl h0
    · exact .inr ⟨b', off', ha, fun i hi => ih i hi (hk i hi)⟩
theorem Tree.le_sum_ones {f : Nat → Nat} {n : Nat} (hf : ∀ i, 1 ≤ f i) : n ≤ Tree.sumTo f n := by
  induction n with
  | zero => exact Nat.zero_le _
  | succ n ihn => rw [Tree.sumTo_succ]; have := hf n; omega
theorem Tree.len_lt_size (t : Tree) : t.len < t.size := by
  have h1 := Tree.size_eq t
  have h2 := Tree.le_sum_ones (f := fun i => (t.kid i).size) (n := t.len) (fun i => Tree.size_pos _)
  omega
/-- all names of a tree have at most B bytes -/
def Tree.namesLe (B : Nat) : Tree → Prop | .node _ _ s l kid => s.size ≤ B ∧ ∀ (i : Nat) (h : i < l), Tree.namesLe B (kid ⟨i, h⟩)
theorem Tree.namesLe_iff {B : Nat} {t : Tree} : t.namesLe B ↔ t.name.size ≤ B ∧ ∀ i, i < t.len → (t.kid i).namesLe B := by
  cases t with
  | node k n s l kid =>
    constructor
    · intro h; exact ⟨h.1, fun i hi => by have hi' : i < l := hi; rw [Tree.kid_node hi']; exact h.2 i hi'⟩
    · intro h; exact ⟨h.1, fun i hi => by have := h.2 i hi; rwa [Tree.kid_node hi] at this⟩
/-- a represented tree has its shape -/
theorem shape_of_rep {S : Nat → Prop} {w : World} {B : Nat} : ∀ {t : Tree} {a : Option Addr} {b off c : Nat}, (∀ k, S k → FreeB w k) → t.namesLe B → S b → NodeAt w b off t a c → RepIn S w t a → ShapeAt S B w t b off := by
  intro t
  induction t using Tree.ind with
  | h t ih =>
    intro a b off c hf hn hb ht hr
    refine ShapeHas.at ⟨hb, hf b hb, ht.num, ht.name, (Tree.namesLe_iff.1 hn).1, ht.kids, ?_⟩
    rcases hr.kids with h0 | ⟨b', off', ha, hS, hk⟩
    · exact .inl h0
    · refine .inr ⟨b', off', ha, fun i hi => ?_⟩
      obtain ⟨ai, ci, h1, h2⟩ := hk i hi
      exact ih i hi hf ((Tree.namesLe_iff.1 hn).2 i hi) hS h1 h2
end Go.Proofs.YtfkegjdgbnkicaaDoor
