/-
  The trees of the chapter's examples, and the world in which awake calls Walk.
-/
import Derived.Test.YtfkegjdgbnkicaaDoorItems
import Derived.Test.YtfkegjdgbnkicaaDoorRows
import Derived.WalkKit
import Derived.RangeFuncNested
namespace Go.Proofs.YtfkegjdgbnkicaaDoor
open Go.RowKit

/-- the trees of the examples -/
def tX : Tree := Tree.leaf 2 0 ⟨#[120]⟩
def tY : Tree := Tree.leaf 2 0 ⟨#[121]⟩
def tOne : Tree := Tree.leaf 1 1 ⟨#[]⟩
def two (k : Int) (x y : Tree) : Tree := Tree.make k 0 ⟨#[]⟩ 2 (fun i => if i = 0 then x else y)
def tAdd : Tree := two 6 tY tOne
def tSum : Tree := two 40 tX tAdd
def tWalk : Tree := two 40 tX tOne

/-- the world in which awake calls Walk -/
abbrev wA (w : World) : World := (((((((w.alloc (.cells #[.bool false] 4)).alloc (.cells #[.int .u8 2, .int .i64 0, .string ⟨#[120]⟩, .slice none 0 0] 24)).alloc (.cells #[.int .u8 1, .int .i64 1, .string ⟨#[]⟩, .slice none 0 0] 24)).alloc
  (.cells #[.int .u8 2, .int .i64 0, .string ⟨#[121]⟩, .slice none 0 0, .int .u8 1, .int .i64 1, .string ⟨#[]⟩, .slice none 0 0] 24)).alloc
  (.cells #[.int .u8 2, .int .i64 0, .string ⟨#[120]⟩, .slice none 0 0, .int .u8 6, .int .i64 0, .string ⟨#[]⟩, .slice (some ⟨w.heap.size + 1 + 1 + 1, 0, none⟩) 2 2] 24)).alloc
  (.cells #[.int .u8 40, .int .i64 0, .string ⟨#[]⟩, .slice (some ⟨w.heap.size + 1 + 1 + 1 + 1, 0, none⟩) 2 2] 24)).alloc (.cells #[.int .i64 0] 3)).alloc
  (.cells #[.int .u8 2, .int .i64 0, .string ⟨#[120]⟩, .slice none 0 0, .int .u8 1, .int .i64 1, .string ⟨#[]⟩, .slice none 0 0] 24)

theorem rep_leaf (w : World) (k n : Int) (s : ByteArray) (h : (Tree.leaf k n s).Fits) (a : Option Addr) : Rep w (Tree.leaf k n s) a := Rep.mk h (.inl rfl)
/-- a node of two children whose row is a block -/
theorem rep_two {w : World} {b k : Nat} {t0 t1 : Tree} {a0 a1 : Option Addr} {c0 c1 : Nat} {T : TypeId} {fr : Nat × Nat}
    (hb : w.heap[b]? = some (.cells #[.int .u8 t0.kind, .int .i64 t0.num, .string t0.name, .slice a0 t0.len c0, .int .u8 t1.kind, .int .i64 t1.num, .string t1.name, .slice a1 t1.len c1] T fr))
    (hk : k ≤ 255) (h0 : Rep w t0 a0) (h1 : Rep w t1 a1) : Rep w (two k t0 t1) (some ⟨b, 0, none⟩) := by
  have hc : ∀ o, w.cell? ⟨b, o, none⟩ = (#[.int .u8 t0.kind, .int .i64 t0.num, .string t0.name, .slice a0 t0.len c0, .int .u8 t1.kind, .int .i64 t1.num, .string t1.name, .slice a1 t1.len c1] : Array Value)[o]? := by
    intro o; unfold World.cell?; simp only [hb]; rfl
  refine Rep.mk ⟨⟨Int.natCast_nonneg k, by show (k : Int) ≤ 255; omega⟩, ⟨by show (-9223372036854775808 : Int) ≤ 0; omega, by show (0 : Int) ≤ 9223372036854775807; omega⟩, by show (0 : Nat) ≤ _; omega, by show 2 ≤ _; omega⟩ (.inr ⟨b, 0, rfl, fun i hi => ?_⟩)
  have hi' : i < 2 := hi
  rw [show (two k t0 t1).kid i = if i = 0 then t0 else t1 from Tree.make_kid hi']
  match i, hi' with
  | 0, _ => exact ⟨a0, c0, ⟨hc 0, hc 1, hc 2, hc 3⟩, h0⟩
  | 1, _ => exact ⟨a1, c1, ⟨hc 4, hc 5, hc 6, hc 7⟩, h1⟩

/-- what that world holds -/
structure AwakeHas (w W : World) : Prop where
  walk : Rep W tWalk (some ⟨w.heap.size + 1 + 1 + 1 + 1 + 1 + 1 + 1, 0, none⟩)
  sum : Rep W tSum (some ⟨w.heap.size + 1 + 1 + 1 + 1, 0, none⟩)
  size : W.heap.size = w.heap.size + 8
  below : Below w.heap.size w W
  box : W.heap[w.heap.size + 5]? = some (.cells #[.int .u8 40, .int .i64 0, .string ⟨#[]⟩, .slice (some ⟨w.heap.size + 1 + 1 + 1 + 1, 0, none⟩) 2 2] 24)
  n : W.heap[w.heap.size + 6]? = some (.cells #[.int .i64 0] 3)
  res : W.heap[w.heap.size]? = some (.cells #[.bool false] 4)
theorem fits_leaf {k n : Int} {s : ByteArray} (h : 0 ≤ k ∧ k ≤ 255) (h2 : 0 ≤ n ∧ n ≤ 1) (h3 : s.size ≤ 5) : (Tree.leaf k n s).Fits :=
  ⟨h, ⟨by show _ ≤ n; omega, by show n ≤ _; omega⟩, by show s.size ≤ _; omega, Nat.zero_le _⟩
theorem awakeHas (w : World) : AwakeHas w (wA w) := by
  have hz : (wA w).heap.size = w.heap.size + 8 := by simp [wA]
  have hl : ∀ (W : World) (o : Obj) (b : Nat), b < W.heap.size → (W.alloc o).heap[b]? = W.heap[b]? := fun W o b h => Below.heap_alloc W o b h
  have hn : ∀ (W : World) (o : Obj) (b : Nat), b = W.heap.size → (W.alloc o).heap[b]? = some o := fun W o b h => by subst h; exact World.alloc_heap_new W o
  have b3 : (wA w).heap[w.heap.size + 3]? = some (.cells #[.int .u8 2, .int .i64 0, .string ⟨#[121]⟩, .slice none 0 0, .int .u8 1, .int .i64 1, .string ⟨#[]⟩, .slice none 0 0] 24) := by
    unfold wA; iterate 4 rw [hl _ _ _ (by simp <;> omega)]
    exact hn _ _ _ (by simp <;> omega)
  have b4 : (wA w).heap[w.heap.size + 4]? = some (.cells #[.int .u8 2, .int .i64 0, .string ⟨#[120]⟩, .slice none 0 0, .int .u8 6, .int .i64 0, .string ⟨#[]⟩, .slice (some ⟨w.heap.size + 1 + 1 + 1, 0, none⟩) 2 2] 24) := by
    unfold wA; iterate 3 rw [hl _ _ _ (by simp <;> omega)]
    exact hn _ _ _ (by simp <;> omega)
  have b7 : (wA w).heap[w.heap.size + 7]? = some (.cells #[.int .u8 2, .int .i64 0, .string ⟨#[120]⟩, .slice none 0 0, .int .u8 1, .int .i64 1, .string ⟨#[]⟩, .slice none 0 0] 24) := by
    unfold wA; exact hn _ _ _ (by simp <;> omega)
  have rX : ∀ W a, Rep W tX a := fun W a => rep_leaf W _ _ _ (fits_leaf (by omega) (by omega) (by decide)) a
  have rY : ∀ W a, Rep W tY a := fun W a => rep_leaf W _ _ _ (fits_leaf (by omega) (by omega) (by decide)) a
  have rO : ∀ W a, Rep W tOne a := fun W a => rep_leaf W _ _ _ (fits_leaf (by omega) (by omega) (by decide)) a
  have rA : Rep (wA w) tAdd (some ⟨w.heap.size + 3, 0, none⟩) := rep_two (k := 6) (t0 := tY) (t1 := tOne) b3 (by omega) (rY _ _) (rO _ _)
  refine ⟨rep_two (k := 40) (t0 := tX) (t1 := tOne) b7 (by omega) (rX _ _) (rO _ _), rep_two (k := 40) (t0 := tX) (t1 := tAdd) b4 (by omega) (rX _ _) rA, hz, ?_, ?_, ?_, ?_⟩
  · exact ((((((((Below.refl _ w).alloc (Nat.le_refl _) _).alloc (by simp <;> omega) _).alloc (by simp <;> omega) _).alloc (by simp <;> omega) _).alloc (by simp <;> omega) _).alloc (by simp <;> omega) _).alloc (by simp <;> omega) _).alloc (by simp <;> omega) _
  · unfold wA; iterate 2 rw [hl _ _ _ (by simp <;> omega)]
    exact hn _ _ _ (by simp <;> omega)
  · unfold wA; iterate 1 rw [hl _ _ _ (by simp <;> omega)]
    exact hn _ _ _ (by simp <;> omega)
  · unfold wA; iterate 7 rw [hl _ _ _ (by simp <;> omega)]
    exact hn _ _ _ (by simp <;> omega)

/-- the second example lies in two blocks -/
theorem awakeSum {w W : World} (h3 : W.heap[w.heap.size + 3]? = (wA w).heap[w.heap.size + 3]?) (h4 : W.heap[w.heap.size + 4]? = (wA w).heap[w.heap.size + 4]?) : Rep W tSum (some ⟨w.heap.size + 1 + 1 + 1 + 1, 0, none⟩) := by
  have hl : ∀ (W : World) (o : Obj) (b : Nat), b < W.heap.size → (W.alloc o).heap[b]? = W.heap[b]? := fun W o b h => Below.heap_alloc W o b h
  have hn : ∀ (W : World) (o : Obj) (b : Nat), b = W.heap.size → (W.alloc o).heap[b]? = some o := fun W o b h => by subst h; exact World.alloc_heap_new W o
  have b3 : W.heap[w.heap.size + 3]? = some (.cells #[.int .u8 2, .int .i64 0, .string ⟨#[121]⟩, .slice none 0 0, .int .u8 1, .int .i64 1, .string ⟨#[]⟩, .slice none 0 0] 24) := by
    rw [h3]; unfold wA; iterate 4 rw [hl _ _ _ (by simp <;> omega)]
    exact hn _ _ _ (by simp <;> omega)
  have b4 : W.heap[w.heap.size + 4]? = some (.cells #[.int .u8 2, .int .i64 0, .string ⟨#[120]⟩, .slice none 0 0, .int .u8 6, .int .i64 0, .string ⟨#[]⟩, .slice (some ⟨w.heap.size + 1 + 1 + 1, 0, none⟩) 2 2] 24) := by
    rw [h4]; unfold wA; iterate 3 rw [hl _ _ _ (by simp <;> omega)]
    exact hn _ _ _ (by simp <;> omega)
  have rX : ∀ W a, Rep W tX a := fun W a => rep_leaf W _ _ _ (fits_leaf (by omega) (by omega) (by decide)) a
  have rY : ∀ W a, Rep W tY a := fun W a => rep_leaf W _ _ _ (fits_leaf (by omega) (by omega) (by decide)) a
  have rO : ∀ W a, Rep W tOne a := fun W a => rep_leaf W _ _ _ (fits_leaf (by omega) (by omega) (by decide)) a
  have rA : Rep W tAdd (some ⟨w.heap.size + 3, 0, none⟩) := rep_two (k := 6) (t0 := tY) (t1 := tOne) b3 (by omega) (rY _ _) (rO _ _)
  exact rep_two (k := 40) (t0 := tX) (t1 := tAdd) b4 (by omega) (rX _ _) rA

theorem walk_items : tWalk.items [] = [([], tWalk), ([0], tX), ([1], tOne)] := by rfl

end Go.Proofs.YtfkegjdgbnkicaaDoor
