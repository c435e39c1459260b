/-
  Contract: block (package ontimelaw15).
-/
import Derived.Test.YtnegdmhmhdojbaaDoorChkOk
import Derived.Test.YtnegdmhmhdojbaaDoorMemSet
namespace Go.Proofs.YtnegdmhmhdojbaaDoor
set_option linter.unusedVariables false
set_option linter.unusedSimpArgs false
open Go.RowKit
set_option maxRecDepth 100000
set_option maxHeartbeats 4000000

theorem block_any (w : World) (a : Option Addr) (n c : Nat) :
    Calls Tryd.prog 33 #[.slice a n c] w fun e w' => e = .returned (.agg #[.int .u8 47, .int .i64 0, .string ⟨#[]⟩, .slice a n c]) ∧ Below w.heap.size w w' := by
  obtain ⟨W, hW⟩ : ∃ W : World, w.alloc (.cells #[.int .u8 0, .int .i64 0, .string ⟨#[]⟩, .slice none 0 0] 43) = W := ⟨_, rfl⟩
  have HBW : Hid (Below w.heap.size w W) := by show Below _ _ _; rw [← hW]; exact mem_alloc _ _
  have hX : W.heap[w.heap.size]? = some (.cells #[.int .u8 0, .int .i64 0, .string ⟨#[]⟩, .slice none 0 0] 43) := by rw [← hW]; exact mem_new _ _
  have z0 := mem_cell hX 0
  have z1 := mem_cell hX 1
  have z2 := mem_cell hX 2
  have z3 := mem_cell hX 3
  have q0 := mem_free hX 0
  have q1 := mem_free hX 1
  have q2 := mem_free hX 2
  have q3 := mem_free hX 3
  simp only [List.getElem?_toArray, List.getElem?_cons_zero, List.getElem?_cons_succ] at z0 z1 z2 z3
  clear hX
  go_enter Tryd.func33, Tryd.ntmps33
  go_wp2_with fail
  refine bodyPost_ret (v := .agg #[.int .u8 47, .int .i64 0, .string ⟨#[]⟩, .slice a n c]) (by simp [results, Tryd.results33, go_sem, z0, z1, z2, z3]) rfl ?_
  exact ⟨rfl, (((HBW.out.setCell (p := ⟨w.heap.size, 0, none⟩) (Nat.le_refl _) _).setCell (p := ⟨w.heap.size, 1, none⟩) (Nat.le_refl _) _).setCell (p := ⟨w.heap.size, 2, none⟩) (Nat.le_refl _) _).setCell (p := ⟨w.heap.size, 3, none⟩) (Nat.le_refl _) _⟩
/-- a path's row, read -/
theorem PathV.row {N : Nat} {w : World} {a : Option Addr} {c : Nat} {p : List Int} (h : PathV N w (.slice a p.length c) p) : IRow w a p := by
  refine ⟨own_size h, fun i hi => ?_⟩
  obtain ⟨b, rfl, _, _⟩ := own_at h (by omega)
  refine ⟨b, 0, rfl, ?_⟩
  rw [Nat.zero_add]
  refine own_get h ?_
  unfold ints
  simp [hi]
/-- a new row of ints, read -/
theorem irow_new {w : World} {b : Nat} {p : List Int} {T : TypeId} (h : w.heap[b]? = some (.cells (ints p).toArray T)) (hp : p.length ≤ 1000000) : IRow w (some ⟨b, 0, none⟩) p := by
  refine ⟨by omega, fun i hi => ⟨b, 0, rfl, ?_⟩⟩
  rw [mem_cell h]
  unfold ints
  simp [hi]
/-- what the rows of faults hold, cell for cell -/
theorem FltsAt.cell {N g m cap j : Nat} {w : World} {L : List FltP} {u : Value} (h : FltsAt N w (.slice (some ⟨g, 0, none⟩) m cap) L) (hu : (L.flatMap FltP.cells)[j]? = some u) : w.cell? ⟨g, j, none⟩ = some u := own_get h.ro hu
/-- a tree whose children's row is a block of one or two nodes -/
def one1 (k : Int) (s : ByteArray) (x : Tree) : Tree := Tree.make k 0 s 1 (fun _ => x)
def two1 (k : Int) (x y : Tree) : Tree := Tree.make k 0 ⟨#[]⟩ 2 (fun i => if i = 0 then x else y)
theorem leaf_rep {w : World} {k n : Int} {s : ByteArray} {a : Option Addr} (hk : 0 ≤ k ∧ k ≤ 255) (hn : 0 ≤ n ∧ n ≤ 1) (hs : s.size ≤ 5) : Rep w (Tree.leaf k n s) a :=
  Rep.mk ⟨hk, ⟨by show _ ≤ n; omega, by show n ≤ _; omega⟩, by show s.size ≤ _; omega, Nat.zero_le _⟩ (.inl rfl)
theorem one1_rep {w : World} {b k : Nat} {s : ByteArray} {x : Tree} {a : Option Addr} {c : Nat} {T : TypeId}
    (hb : w.heap[b]? = some (.cells #[.int .u8 x.kind, .int .i64 x.num, .string x.name, .slice a x.len c] T)) (hk : k ≤ 255) (hs : s.size ≤ 5) (hx : Rep w x a) : Rep w (one1 k s x) (some ⟨b, 0, none⟩) := by
  have hc := mem_cell hb
  refine Rep.mk ⟨⟨Int.natCast_nonneg k, by show (k : Int) ≤ 255; omega⟩, ⟨by show (-9223372036854775808 : Int) ≤ 0; omega, by show (0 : Int) ≤ 9223372036854775807; omega⟩, by show s.size ≤ _; omega, by show 1 ≤ _; omega⟩ (.inr ⟨b, 0, rfl, fun i hi => ?_⟩)
  have hi' : i < 1 := hi
  rw [show (one1 k s x).kid i = x from Tree.make_kid hi']
  obtain rfl : i = 0 := by omega
  exact ⟨a, c, ⟨hc 0, hc 1, hc 2, hc 3⟩, hx⟩
theorem two1_rep {w : World} {b k : Nat} {t0 t1 : Tree} {a0 a1 : Option Addr} {c0 c1 : Nat} {T : TypeId}
    (hb : w.heap[b]? = some (.cells #[.int .u8 t0.kind, .int .i64 t0.num, .string t0.name, .slice a0 t0.len c0, .int .u8 t1.kind, .int .i64 t1.num, .string t1.name, .slice a1 t1.len c1] T))
    (hk : k ≤ 255) (h0 : Rep w t0 a0) (h1 : Rep w t1 a1) : Rep w (two1 k t0 t1) (some ⟨b, 0, none⟩) := by
  have hc := mem_cell hb
  refine Rep.mk ⟨⟨Int.natCast_nonneg k, by show (k : Int) ≤ 255; omega⟩, ⟨by show (-9223372036854775808 : Int) ≤ 0; omega, by show (0 : Int) ≤ 9223372036854775807; omega⟩, by show (0 : Nat) ≤ _; omega, by show 2 ≤ _; omega⟩ (.inr ⟨b, 0, rfl, fun i hi => ?_⟩)
  have hi' : i < 2 := hi
  rw [show (two1 k t0 t1).kid i = if i = 0 then t0 else t1 from Tree.make_kid hi']
  match i, hi' with
  | 0, _ => exact ⟨a0, c0, ⟨hc 0, hc 1, hc 2, hc 3⟩, h0⟩
  | 1, _ => exact ⟨a1, c1, ⟨hc 4, hc 5, hc 6, hc 7⟩, h1⟩
end Go.Proofs.YtnegdmhmhdojbaaDoor
