/-
  Mg47: several texts in one (CpAt, TurnL, ValsRows).
-/
import Derived.Test.YteknhnnlhhgppaaDoorCopied19
import Derived.Test.YteknhnnlhhgppaaDoorMergeP
import Derived.Test.YteknhnnlhhgppaaDoorMg0
import Derived.Test.YteknhnnlhhgppaaDoorMg16
import Derived.Deep.QuietTactic
import Derived.BigQuiet
import Derived.Test.YteknhnnlhhgppaaDoorMg44
import Derived.Test.YteknhnnlhhgppaaDoorLiveInter
/-
  A copied function that is changed in place: where block k's code lies; the closure that turns a register (package ontimelaw19).
-/
namespace Go.Proofs.YteknhnnlhhgppaaDoor
set_option linter.unusedVariables false
set_option linter.unusedSimpArgs false
open Go.RowKit
set_option maxRecDepth 100000
set_option maxHeartbeats 8000000

/-- the copied blocks L in memory; block k's code lies at ca -/
def CpAt (N : Nat) (w : World) (g n c : Nat) (L : List Blk) (k : Nat) (ca : Option Addr) (cc : Nat) : Prop :=
  ∃ l, BlkOwn N 43 54 w (.slice (some ⟨g, 0, none⟩) n c) l ∧ l.map (·.blk) = L ∧ L.length = n ∧ ∃ p, l[k]? = some p ∧ p.a = ca ∧ p.c = cc
section
variable {N g n c k cc m : Nat} {w w' : World} {L : List Blk} {ca : Option Addr} {b : Blk} {i i' : Ins}
theorem CpAt.keep (h : CpAt N w g n c L k ca cc) (hb : Below w.heap.size w w') : CpAt N w' g n c L k ca cc := by
  obtain ⟨l, h1, h2⟩ := h
  exact ⟨l, h1.keep hb, h2⟩
theorem CpAt.to (h : CpAt N w g n c L k ca cc) {j : Nat} (hj : j < n) : ∃ ca' cc', CpAt N w g n c L j ca' cc' := by
  obtain ⟨l, h1, h2, h3, _⟩ := h
  have hl : j < l.length := by rw [← h3, ← h2, List.length_map] at hj; exact hj
  exact ⟨_, _, l, h1, h2, h3, l[j], List.getElem?_eq_getElem hl, rfl, rfl⟩
theorem CpAt.low (h : CpAt N w g n c L k ca cc) : N ≤ g ∧ g < w.heap.size := by
  obtain ⟨l, h1, _⟩ := h
  exact ownsRow_lt h1.row rfl
theorem CpAt.blk (h : CpAt N w g n c L k ca cc) (hb : L[k]? = some b) : w.cell? ⟨g, k * 5, none⟩ = some (.slice ca b.code.length cc) ∧ w.cell? ⟨g, k * 5 + 1, none⟩ = some (.int .u8 b.kind) ∧ w.cell? ⟨g, k * 5 + 2, none⟩ = some (.int .i64 b.x) ∧ (∀ j, w.frozen? ⟨g, j, none⟩ = false) ∧ b.code.length ≤ 1000000 ∧ b.Wf := by
  obtain ⟨l, h1, rfl, h3, p, hp, rfl, rfl⟩ := h
  rw [List.getElem?_map, hp] at hb
  obtain rfl : p.blk = b := by simpa using hb
  have cell : ∀ o u, o < 5 → p.cells[o]? = some u → w.cell? ⟨g, k * 5 + o, none⟩ = some u := fun o u ho hu => own_cell h1.row ((flat_get BlkP.cells_len hp ho).trans hu)
  exact ⟨cell 0 _ (by omega) rfl, cell 1 _ (by omega) rfl, cell 2 _ (by omega) rfl, fun j => row_free h1.row j, h1.small p (List.mem_of_getElem? hp), h1.wf p (List.mem_of_getElem? hp)⟩
theorem CpAt.ins (h : CpAt N w g n c L k ca cc) (hb : L[k]? = some b) (hi : b.code[m]? = some i) : ∃ cb, ca = some ⟨cb, 0, none⟩ ∧ N ≤ cb ∧ cb < w.heap.size ∧ (∀ o u, o < 6 → i.cells[o]? = some u → w.cell? ⟨cb, m * 6 + o, none⟩ = some u) ∧ (∀ j, w.frozen? ⟨cb, j, none⟩ = false) ∧ i.Wf := by
  obtain ⟨l, h1, rfl, h3, p, hp, rfl, rfl⟩ := h
  rw [List.getElem?_map, hp] at hb
  obtain rfl : p.blk = b := by simpa using hb
  have hpm := List.mem_of_getElem? hp
  have hc := h1.code p hpm
  have hm := (List.getElem?_eq_some_iff.1 hi).1
  obtain ⟨cb, e, hN, hl, _⟩ := own_some (show w.ownsRow N 54 6 (.slice p.a p.blk.code.length p.c) p.blk.code.length (codeCells p.blk.code) from hc) (by omega)
  unfold BlkP.code at hc
  rw [e] at hc
  exact ⟨cb, e, hN, hl, fun o u ho hu => own_cell hc ((flat_get Ins.cells_len hi ho).trans hu), fun j => row_free hc j, h1.iwf p hpm i (List.mem_of_getElem? hi)⟩
/-- a field of an instruction is stored -/
theorem CpAt.setIns {cb o : Nat} {u : Value} (h : CpAt N w g n c L k (some ⟨cb, 0, none⟩) cc) (hb : L[k]? = some b) (hi : b.code[m]? = some i) (ho : o < 6) (hw : i'.Wf) (hc : i'.cells = i.cells.set o u) :
    CpAt N (w.setCell ⟨cb, m * 6 + o, none⟩ u) g n c (L.set k { b with code := b.code.set m i' }) k (some ⟨cb, 0, none⟩) cc := by
  obtain ⟨l, h1, rfl, h3, p, hp, ha, rfl⟩ := h
  rw [List.getElem?_map, hp] at hb
  obtain rfl : p.blk = b := by simpa using hb
  have hkl := (List.getElem?_eq_some_iff.1 hp).1
  refine ⟨_, h1.setIns hp hi ho hw hc ha, ?_, by rw [List.length_set]; exact h3, _, List.getElem?_set_self hkl, ha, rfl⟩
  rw [List.map_set]
/-- a field of a block is stored -/
theorem CpAt.setX {q : Blk} {u : Value} (h : CpAt N w g n c L k ca cc) (hb : L[k]? = some b) (hq : q.code = b.code) (hw : q.Wf) (hc : ∀ a c, (BlkP.mk q a c).cells = (BlkP.mk b a c).cells.set 2 u) :
    CpAt N (w.setCell ⟨g, k * 5 + 2, none⟩ u) g n c (L.set k q) k ca cc := by
  obtain ⟨l, h1, rfl, h3, p, hp, rfl, rfl⟩ := h
  rw [List.getElem?_map, hp] at hb
  obtain rfl : p.blk = b := by simpa using hb
  have hkl := (List.getElem?_eq_some_iff.1 hp).1
  refine ⟨_, h1.setBlk (by rw [← h3, List.length_map]) hp (by omega) hq hw (hc p.a p.c), ?_, by rw [List.length_set]; exact h3, _, List.getElem?_set_self hkl, rfl, rfl⟩
  rw [List.map_set]
/-- as a function in memory -/
theorem CpAt.blks (h : CpAt N w g n c L k ca cc) : BlksAt w (some ⟨g, 0, none⟩) L := by
  obtain ⟨l, h1, rfl, h3, p, hp, _⟩ := h
  have hll : l.length = n := by rw [← h3, List.length_map]
  obtain ⟨a9, c9, e9, hb9, _⟩ := h1.toRow.blks (by rw [hll]; have := ownsRow_len h1.row; omega)
  injection e9 with e9
  subst e9
  exact hb9
end
/-- the closure turns a register: what is b becomes a -/
theorem turn_any (gb off ab bb : Nat) (r a b : Int) (w : World) (hr : w.cell? ⟨gb, off, none⟩ = some (.int .i64 r)) (hz : w.frozen? ⟨gb, off, none⟩ = false) (hb : w.cell? ⟨bb, 0, none⟩ = some (.int .i64 b)) (ha : w.cell? ⟨ab, 0, none⟩ = some (.int .i64 a)) :
    Calls Tryd.prog 33 #[.pointer (some ⟨gb, off, none⟩), .pointer (some ⟨bb, 0, none⟩), .pointer (some ⟨ab, 0, none⟩)] w fun e w' => e = .returned (.tuple #[]) ∧ ∃ V, (∃ m, V = World.drewN w m) ∧ w' = V.setCell ⟨gb, off, none⟩ (.int .i64 (thR a b r)) := by
  by_cases h : r = b
  · subst h
    have HT : Hid (thR a r r = a) := if_pos rfl
    rw [HT.out]
    have q1 : (r == r) = true := by simp
    go_enter Tryd.func33, Tryd.ntmps33
    go_wp2_with fail
    go_quiet (fail)
    generalize hV : World.drewN _ _ = V
    have HV : Hid (∃ m, V = World.drewN w m) := ⟨_, hV.symm⟩
    have HB := Lib.hid (below_drew HV.out)
    have r1 := cell_below HB.out hr
    have r2 := cell_below HB.out ha
    have z1 : V.frozen? ⟨gb, off, none⟩ = false := by rw [← hV]; exact hz
    clear hV hr hz hb ha
    go_wp2_with fail
    go_end0
    exact ⟨rfl, V, HV.out, rfl⟩
  · have HT : Hid (thR a b r = r) := if_neg h
    rw [HT.out]
    have q1 : (r == b) = false := by simpa using h
    have q2 : decide (r = b) = false := decide_eq_false h
    clear h
    go_enter Tryd.func33, Tryd.ntmps33
    go_wp2_with fail
    go_quiet (fail)
    generalize hV : World.drewN _ _ = V
    have HV : Hid (∃ m, V = World.drewN w m) := ⟨_, hV.symm⟩
    have HB := Lib.hid (below_drew HV.out)
    have HR := Lib.hid (cell_below HB.out hr)
    clear hV hr hz hb ha
    go_wp2_with fail
    go_end0
    exact ⟨rfl, V, HV.out, (setCell_self HR.out).symm⟩
end Go.Proofs.YteknhnnlhhgppaaDoor

/-
  Two registers in one place: how far the copied blocks are turned, in memory (layer 19).
-/
namespace Go.Proofs.YteknhnnlhhgppaaDoor
set_option linter.unusedVariables false
set_option linter.unusedSimpArgs false
open Go.RowKit
set_option maxRecDepth 100000
set_option maxHeartbeats 8000000

section
variable {α : Type} {f : α → α} {l : List α} {k : Nat} {x : α}
theorem part_len : ((l.take k).map f ++ l.drop k).length = l.length := by simp; omega
theorem part_get (h : l[k]? = some x) : ((l.take k).map f ++ l.drop k)[k]? = some x := by
  have hk := (List.getElem?_eq_some_iff.1 h).1
  rw [List.getElem?_append_right (by simp; omega), List.length_map, List.length_take, Nat.min_eq_left (by omega), Nat.sub_self, List.getElem?_drop, Nat.add_zero]
  exact h
theorem part_set (h : l[k]? = some x) : ((l.take k).map f ++ l.drop k).set k (f x) = (l.take (k + 1)).map f ++ l.drop (k + 1) := by
  obtain ⟨hk, rfl⟩ := List.getElem?_eq_some_iff.1 h
  rw [List.set_append_right _ _ (by simp; omega), List.length_map, List.length_take, Nat.min_eq_left (by omega), Nat.sub_self, List.drop_eq_getElem_cons hk, List.set_cons_zero, List.take_succ_eq_append_getElem hk, List.map_append, List.append_assoc]
  rfl
theorem part_all (h : l.length ≤ k) : (l.take k).map f ++ l.drop k = l.map f := by
  rw [List.take_of_length_le h, List.drop_eq_nil_of_le h, List.append_nil]
end
def turnTo (a b : Int) (k : Nat) (F : List Blk) : List Blk := (F.take k).map (turnBlk a b) ++ F.drop k
def turnCode (a b : Int) (m : Nat) (c : List Ins) : List Ins := (c.take m).map (turnI a b) ++ c.drop m
section
variable {a b : Int} {k m : Nat} {q : Blk} {F : List Blk}
theorem turn_start (h : F[k]? = some q) : turnTo a b k F = (turnTo a b k F).set k { q with code := turnCode a b 0 q.code } := by
  have e : ({ q with code := turnCode a b 0 q.code } : Blk) = q := rfl
  rw [e]
  apply List.ext_getElem?
  intro i
  rw [List.getElem?_set]
  split
  · rename_i e2
    subst e2
    have h9 : (turnTo a b k F)[k]? = some q := part_get h
    rw [if_pos (List.getElem?_eq_some_iff.1 h9).1]
    exact h9
  · rfl
theorem turn_end (h : F[k]? = some q) : (turnTo a b k F).set k (turnBlk a b q) = turnTo a b (k + 1) F := part_set h
theorem code_end : turnCode a b q.code.length q.code = q.code.map (turnI a b) := part_all (Nat.le_refl _)
theorem code_next {i : Ins} (h : q.code[m]? = some i) : (turnCode a b m q.code).set m (turnI a b i) = turnCode a b (m + 1) q.code := part_set h
theorem code_same {i : Ins} (h : q.code[m]? = some i) : (turnCode a b m q.code).set m i = turnCode a b m q.code := by
  apply List.ext_getElem?
  intro j
  rw [List.getElem?_set]
  split
  · rename_i e2
    subst e2
    have h9 : (turnCode a b m q.code)[m]? = some i := part_get h
    rw [if_pos (List.getElem?_eq_some_iff.1 h9).1]
    exact h9.symm
  · rfl
end
theorem row_ty {N : Nat} {T : TypeId} {w : World} {g c n m s : Nat} {xs : List Value} (h : w.ownsRow N T s (.slice (some ⟨g, 0, none⟩) m c) n xs) : ∃ arr f, w.heap[g]? = some (.cells arr T f) := by
  rcases h.2 with ⟨e1, _⟩ | ⟨g', cap, cur, e1, _, hc, _⟩
  · cases e1
  · injection e1 with e1 _ _
    injection e1 with e1
    injection e1 with e1
    subst e1
    exact ⟨_, _, hc⟩
/-- the copied blocks, and the box of the copied function -/
structure MgAt (w6 : World) (gb g n c : Nat) (arr : Array Value) (wr : World) (L : List Blk) (k : Nat) (ca : Option Addr) (cc : Nat) : Prop where
  low : Below w6.heap.size w6 wr
  box : wr.heap[gb]? = some (.cells arr 25)
  cp : CpAt w6.heap.size wr g n c L k ca cc
section
variable {w6 wr V : World} {gb g n c k m cc cb o : Nat} {arr : Array Value} {ca : Option Addr} {a b : Int} {q q' : Blk} {F : List Blk} {C : List Ins} {i i' : Ins} {u : Value}
theorem MgAt.keep (h : MgAt w6 gb g n c arr wr F k ca cc) (hb : Below wr.heap.size wr V) : MgAt w6 gb g n c arr V F k ca cc :=
  ⟨mem_then h.low hb, mem_keep h.box hb, h.cp.keep hb⟩
theorem MgAt.to (h : MgAt w6 gb g n c arr wr F k ca cc) {j : Nat} (hj : j < n) : ∃ ca' cc', MgAt w6 gb g n c arr wr F j ca' cc' := by
  obtain ⟨ca', cc', h'⟩ := h.cp.to hj
  exact ⟨ca', cc', h.low, h.box, h'⟩
theorem MgAt.at_ (h : MgAt w6 gb g n c arr wr ((turnTo a b k F).set k q) k ca cc) (hk : k < F.length) : ((turnTo a b k F).set k q)[k]? = some q := List.getElem?_set_self (by unfold turnTo; rw [part_len]; exact hk)
theorem MgAt.fields (h : MgAt w6 gb g n c arr wr ((turnTo a b k F).set k { q with code := C.set m i }) k (some ⟨cb, 0, none⟩) cc) (hk : k < F.length) (hm : m < C.length) :
    w6.heap.size ≤ cb ∧ (∀ o u, o < 6 → i.cells[o]? = some u → wr.cell? ⟨cb, m * 6 + o, none⟩ = some u) ∧ (∀ j, wr.frozen? ⟨cb, j, none⟩ = false) ∧ i.Wf := by
  obtain ⟨cb', e, h1, _, h2, h3, h4⟩ := h.cp.ins (h.at_ hk) (List.getElem?_set_self hm)
  cases e
  exact ⟨h1, h2, h3, h4⟩
theorem MgAt.step (h : MgAt w6 gb g n c arr wr ((turnTo a b k F).set k { q with code := C.set m i }) k (some ⟨cb, 0, none⟩) cc) (hk : k < F.length) (hm : m < C.length) (ho : o < 6) (hw : i'.Wf) (hc : i'.cells = i.cells.set o u) (hV : ∃ t, V = World.drewN wr t) :
    MgAt w6 gb g n c arr (V.setCell ⟨cb, m * 6 + o, none⟩ u) ((turnTo a b k F).set k { q with code := C.set m i' }) k (some ⟨cb, 0, none⟩) cc := by
  have hh := h.keep (below_drew hV)
  have hat := hh.at_ hk
  have hi : (C.set m i)[m]? = some i := List.getElem?_set_self hm
  have hcp := hh.cp.setIns hat hi ho hw hc
  rw [List.set_set, List.set_set] at hcp
  obtain ⟨cb', e, h1, _⟩ := hh.cp.ins hat hi
  cases e
  refine ⟨hh.low.setCell h1 _, (Below.heap_setCell _ _ _ _ ?_).trans hh.box, hcp⟩
  obtain ⟨l, k1, k2, _, p, hp, ha, _⟩ := hh.cp
  have hc1 := k1.code p (List.mem_of_getElem? hp)
  unfold BlkP.code at hc1
  rw [ha] at hc1
  obtain ⟨ar2, f2, hty⟩ := row_ty hc1
  have hbx := hh.box
  show gb ≠ cb
  rintro rfl
  rw [hty] at hbx
  injection hbx with hbx
  injection hbx with _ e2
  exact absurd e2 (by decide)
/-- the closure's answer at a field of the instruction -/
theorem MgAt.turn (h : MgAt w6 gb g n c arr wr ((turnTo a b k F).set k q) k ca cc) (hk : k < F.length) (hq : q'.code = q.code) (hw : q'.Wf) (hc : ∀ a c, (BlkP.mk q' a c).cells = (BlkP.mk q a c).cells.set 2 u) (hV : ∃ t, V = World.drewN wr t) :
    MgAt w6 gb g n c arr (V.setCell ⟨g, k * 5 + 2, none⟩ u) ((turnTo a b k F).set k q') k ca cc := by
  have hh := h.keep (below_drew hV)
  have hcp := hh.cp.setX (hh.at_ hk) hq hw hc
  rw [List.set_set] at hcp
  refine ⟨hh.low.setCell hh.cp.low.1 _, (Below.heap_setCell _ _ _ _ ?_).trans hh.box, hcp⟩
  obtain ⟨l, k1, _⟩ := hh.cp
  obtain ⟨ar2, f2, hty⟩ := row_ty k1.row
  have hbx := hh.box
  show gb ≠ g
  rintro rfl
  rw [hty] at hbx
  injection hbx with hbx
  injection hbx with _ e2
  exact absurd e2 (by decide)
/-- the six cells of the instruction at hand -/
theorem MgAt.six {op d x y imm : Int} {sym : ByteArray} (h : MgAt w6 gb g n c arr wr ((turnTo a b k F).set k { q with code := C.set m ⟨op, d, x, y, imm, sym⟩ }) k (some ⟨cb, 0, none⟩) cc) (hk : k < F.length) (hm : m < C.length) :
    (wr.cell? ⟨cb, m * 6, none⟩ = some (.int .u8 op) ∧ wr.cell? ⟨cb, m * 6 + 1, none⟩ = some (.int .i64 d) ∧ wr.cell? ⟨cb, m * 6 + 2, none⟩ = some (.int .i64 x) ∧ wr.cell? ⟨cb, m * 6 + 3, none⟩ = some (.int .i64 y) ∧ wr.cell? ⟨cb, m * 6 + 4, none⟩ = some (.int .i64 imm) ∧ wr.cell? ⟨cb, m * 6 + 5, none⟩ = some (.string sym)) ∧ (∀ j, wr.frozen? ⟨cb, j, none⟩ = false) ∧ (⟨op, d, x, y, imm, sym⟩ : Ins).Wf := by
  obtain ⟨_, h1, h2, h3⟩ := h.fields hk hm
  exact ⟨⟨h1 0 _ (by omega) rfl, h1 1 _ (by omega) rfl, h1 2 _ (by omega) rfl, h1 3 _ (by omega) rfl, h1 4 _ (by omega) rfl, h1 5 _ (by omega) rfl⟩, h2, h3⟩
/-- the block at hand -/
theorem MgAt.head (h : MgAt w6 gb g n c arr wr ((turnTo a b k F).set k q) k ca cc) (hk : k < F.length) : wr.cell? ⟨g, k * 5, none⟩ = some (.slice ca q.code.length cc) ∧ wr.cell? ⟨g, k * 5 + 1, none⟩ = some (.int .u8 q.kind) ∧ wr.cell? ⟨g, k * 5 + 2, none⟩ = some (.int .i64 q.x) ∧ (∀ j, wr.frozen? ⟨g, j, none⟩ = false) ∧ q.Wf := by
  obtain ⟨h1, h2, h3, h4, _, h5⟩ := h.cp.blk (h.at_ hk)
  exact ⟨h1, h2, h3, h4, h5⟩
theorem MgAt.code (h : MgAt w6 gb g n c arr wr ((turnTo a b k F).set k q) k ca cc) (hk : k < F.length) (hm : m < q.code.length) : ∃ cb, ca = some ⟨cb, 0, none⟩ := by
  obtain ⟨cb, e, _⟩ := h.cp.ins (m := m) (h.at_ hk) (List.getElem?_eq_getElem hm)
  exact ⟨cb, e⟩
theorem isI64_th {r : Int} (ha : isI64 a) (h : isI64 r) : isI64 (thR a b r) := by
  unfold thR; split <;> assumption
end
end Go.Proofs.YteknhnnlhhgppaaDoor

/-
  Contracts: rows of rows of ints held against one another (slices.EqualFunc with slices.Equal); rows whose ints are overwritten.
-/
namespace Go.Proofs.YteknhnnlhhgppaaDoor
set_option linter.unusedVariables false
set_option linter.unusedSimpArgs false
open Go.RowKit
set_option maxRecDepth 100000
set_option maxHeartbeats 8000000

/-- rows of ints, wherever they lie -/
def RowsI (w : World) (v : Value) (ls : List (List Int)) : Prop :=
  ls.length ≤ 1000000 ∧ ∃ a c, v = .slice a ls.length c ∧ (ls.length = 0 ∨ ∃ b off, a = some ⟨b, off, none⟩ ∧ ∀ (i : Nat) (l : List Int), ls[i]? = some l → l.length ≤ 1000000 ∧ ∃ u, w.cell? ⟨b, off + i, none⟩ = some u ∧ IntsAt w u l)
theorem RowsI.below {w w' : World} {v : Value} {ls : List (List Int)} (h : RowsI w v ls) (hB : Below w.heap.size w w') : RowsI w' v ls := by
  obtain ⟨h0, a, c, rfl, h⟩ := h
  refine ⟨h0, a, c, rfl, ?_⟩
  rcases h with h | ⟨b, off, ha, hc⟩
  · exact .inl h
  · refine .inr ⟨b, off, ha, fun i l hl => ?_⟩
    obtain ⟨h1, u, h2, h3⟩ := hc i l hl
    exact ⟨h1, u, cell_below hB h2, h3.below hB⟩
theorem IRows.rowsI {B : Nat} {w : World} {v : Value} {rows : List (Value × List Int)} (h : IRows B w v rows) (hn : rows.length ≤ 1000000) (hl : ∀ p ∈ rows, p.2.length ≤ 1000000) : RowsI w v (rows.map (·.2)) := by
  obtain ⟨a, c, rfl⟩ := h.val
  refine ⟨by rw [List.length_map]; exact hn, a, c, by rw [List.length_map], ?_⟩
  rcases Nat.eq_zero_or_pos rows.length with h0 | h0
  · exact .inl (by rw [List.length_map]; exact h0)
  · obtain ⟨g, rfl, _⟩ := own_some h.ro h0
    refine .inr ⟨g, 0, rfl, fun i l hi => ?_⟩
    rw [List.getElem?_map] at hi
    obtain ⟨p, hp, rfl⟩ := Option.map_eq_some_iff.1 hi
    refine ⟨hl p (List.mem_of_getElem? hp), p.1, ?_, (h.ri p (List.mem_of_getElem? hp)).at_⟩
    rw [Nat.zero_add]
    exact own_cell h.ro (by rw [List.getElem?_map, hp]; rfl)
theorem sameRows_any (ls : List (List Int)) (va vb : Value) (w : World) (ha : RowsI w va ls) (hb : RowsI w vb ls) :
    Calls Tryd.prog 31 #[va, vb, .func (.func 16) #[] #[]] w fun e w' => e = .returned (.bool true) ∧ Below w.heap.size w w' := by
  obtain ⟨hl, a, c, rfl, hla⟩ := ha
  obtain ⟨_, b, d, rfl, hlb⟩ := hb
  have HLA := Lib.hid hla
  have HLB := Lib.hid hlb
  obtain ⟨n, hn⟩ : ∃ n, ls.length = n := ⟨_, rfl⟩
  have HN := Lib.hid hn
  rw [hn] at hl ⊢
  clear hla hlb hn
  go_enter Tryd.func31, Tryd.ntmps31
  go_wp2_with fail
  go_loopw [17] (fun i wr => ∃ j : Nat, j ≤ n ∧ i = .int .i64 (j : Int) ∧ Below w.heap.size w wr) (fun i _ => n - (intOf i).toNat)
  case atStart => exact ⟨0, Nat.zero_le _, rfl, Below.refl _ _⟩
  case round =>
    obtain ⟨j, hj, rfl, hB⟩ := hrel
    have HB := Lib.hid hB
    have hj0 : (0 : Int) ≤ (j : Int) := by omega
    clear hB
    by_cases hlt : j < n
    · have hlt2 : (j : Int) < (n : Int) := by omega
      obtain ⟨l, hx⟩ : ∃ l, ls[j]? = some l := ⟨_, List.getElem?_eq_getElem (by rw [HN.out]; exact hlt)⟩
      rcases HLA.out with h0 | ⟨lb, lo, rfl, hc⟩
      · have := HN.out; omega
      rcases HLB.out with h0 | ⟨mb, mo, rfl, hd⟩
      · have := HN.out; omega
      obtain ⟨hl1, u, hu, hui⟩ := hc j l hx
      obtain ⟨_, v, hv, hvi⟩ := hd j l hx
      have c1 := cell_below HB.out hu
      have c2 := cell_below HB.out hv
      have HU := Lib.hid (hui.below HB.out)
      have HV := Lib.hid (hvi.below HB.out)
      have HL1 := Lib.hid hl1
      clear hc hd hx hu hv hl1
      obtain ⟨ua, uc, rfl, _⟩ := hui
      obtain ⟨va', vc, rfl, _⟩ := hvi
      go_wp2_with fail
      refine (intsSame_any l _ _ _ HU.out HV.out HL1.out).mono ?_
      rintro e w2 ⟨rfl, hB2⟩
      have HB2 : Hid (Below w.heap.size w w2) := below_step HB.out hB2
      clear hB2 c1 c2
      go_wp2_with fail
      exact ⟨⟨j + 1, by omega, by go_num, HB2.out⟩, by simp [intOf]; omega⟩
    · obtain rfl : n = j := by omega
      go_wp2_with fail
      go_ret
      exact ⟨rfl, HB.out⟩
theorem same30_any (ls : List (List Int)) (va vb : Value) (w : World) (ha : RowsI w va ls) (hb : RowsI w vb ls) :
    Calls Tryd.prog 30 #[va, vb] w fun e w' => e = .returned (.bool true) ∧ Below w.heap.size w w' := by
  have HA := Lib.hid ha
  have HB := Lib.hid hb
  obtain ⟨_, a, c, rfl, _⟩ := ha
  obtain ⟨_, b, d, rfl, _⟩ := hb
  go_enter Tryd.func30, Tryd.ntmps30
  go_wp2_with fail
  refine (sameRows_any ls _ _ _ HA.out HB.out).mono ?_
  rintro e w2 ⟨rfl, hB2⟩
  have HB2 := Lib.hid hB2
  clear hB2
  go_wp2_with fail
  go_ret
  exact ⟨rfl, HB2.out⟩
/-- a row of ints of the call's own, whatever it holds -/
def RowK (B : Nat) (w : World) (a : Option Addr) (len : Nat) : Prop :=
  len = 0 ∨ ∃ b cur, a = some ⟨b, 0, none⟩ ∧ B ≤ b ∧ w.heap[b]? = some (.cells cur 3) ∧ len ≤ cur.size
/-- rows of ints of the call's own, whatever they hold -/
def WRow (B : Nat) (w : World) (g n : Nat) : Prop :=
  ∃ arr, w.heap[g]? = some (.cells arr 39) ∧ ∀ k, k < n → ∃ a len cap, arr[k]? = some (.slice a len cap) ∧ len ≤ 12 ∧ RowK B w a len
section
variable {B : Nat} {w : World} {b i : Nat} {cur : Array Value} {u : Value}
theorem RowK.set {a : Option Addr} {len : Nat} (h : RowK B w a len) (hb : w.heap[b]? = some (.cells cur 3)) : RowK B (w.setCell ⟨b, i, none⟩ u) a len := by
  rcases h with h | ⟨b', cur', ha, hB, hc, hl⟩
  · exact .inl h
  · by_cases e : b' = b
    · subst e
      rw [hb] at hc
      injection hc with hc
      injection hc with hc
      subst hc
      exact .inr ⟨b', _, ha, hB, setCell_heap hb, by simpa using hl⟩
    · exact .inr ⟨b', cur', ha, hB, (Below.heap_setCell _ _ _ _ e).trans hc, hl⟩
theorem WRow.set {g n : Nat} (h : WRow B w g n) (hb : w.heap[b]? = some (.cells cur 3)) : WRow B (w.setCell ⟨b, i, none⟩ u) g n := by
  obtain ⟨arr, hg, hk⟩ := h
  have hne : g ≠ b := by
    rintro rfl
    rw [hg] at hb
    injection hb with hb
    injection hb with _ e
    cases e
  refine ⟨arr, (Below.heap_setCell _ _ _ _ hne).trans hg, fun k hkn => ?_⟩
  obtain ⟨a, len, cap, h1, h2, h3⟩ := hk k hkn
  exact ⟨a, len, cap, h1, h2, h3.set hb⟩
end
/-- what the loops that overwrite keep -/
structure WrSt (V : World) (tb ig ic og oc n : Nat) (w : World) : Prop where
  low : Below V.heap.size V w
  box : w.heap[tb]? = some (.cells #[.slice (some ⟨ig, 0, none⟩) n ic, .slice (some ⟨og, 0, none⟩) n oc] 30)
  inr : WRow V.heap.size w ig n
  our : WRow V.heap.size w og n
theorem WrSt.set {V w : World} {tb ig ic og oc n b i : Nat} {cur : Array Value} {u : Value} (h : WrSt V tb ig ic og oc n w) (hB : V.heap.size ≤ b) (hb : w.heap[b]? = some (.cells cur 3)) : WrSt V tb ig ic og oc n (w.setCell ⟨b, i, none⟩ u) := by
  have hne : tb ≠ b := by
    rintro rfl
    have h9 := h.box
    rw [hb] at h9
    injection h9 with h9
    injection h9 with _ e
    cases e
  exact ⟨h.low.setCell hB _, (Below.heap_setCell _ _ _ _ hne).trans h.box, h.inr.set hb, h.our.set hb⟩
theorem IRows.wrow {B g n c : Nat} {w : World} {rows : List (Value × List Int)} (h : IRows B w (.slice (some ⟨g, 0, none⟩) n c) rows) (hn : n = rows.length) (hl : ∀ p ∈ rows, p.2.length ≤ 12) : WRow B w g n := by
  subst hn
  have hro := h.ro
  rcases hro.2 with ⟨e1, _⟩ | ⟨g', cap, cur, e1, _, hc, h1, _, h2, h3⟩
  · cases e1
  injection e1 with e1 _ _
  injection e1 with e1
  injection e1 with e1
  subst e1
  refine ⟨cur, hc, fun k hk => ?_⟩
  obtain ⟨p, hp⟩ : ∃ p, rows[k]? = some p := ⟨_, List.getElem?_eq_getElem hk⟩
  obtain ⟨v, l⟩ := p
  have hcell := own_cell h.ro (show (rows.map (·.1))[k]? = some v by rw [List.getElem?_map, hp]; rfl)
  rw [cell_heap hc] at hcell
  have hri : IntRow B w v l := h.ri _ (List.mem_of_getElem? hp)
  obtain ⟨a, c', rfl⟩ := hri.val
  refine ⟨a, l.length, c', hcell, hl _ (List.mem_of_getElem? hp), ?_⟩
  rcases Nat.eq_zero_or_pos l.length with h0 | h0
  · exact .inl h0
  · rcases hri.2 with ⟨e1, e2⟩ | ⟨gb, cap', cur', e1, hB, hc', h4, _, h5, _⟩
    · omega
    · injection e1 with e1 _ e3
      subst e3
      exact .inr ⟨gb, cur', e1, hB, hc', by omega⟩
/-- interference is one and the same at each call -/
theorem inter_unique {f : Fn} {R : Nat} {ins outs ins' outs' ss ss' : List Nat} (hF : FormR f R) (h : Sol f R ins outs) (h' : Sol f R ins' outs') (hl : ss.length = R) (hl' : ss'.length = R)
    (hb : ∀ a c, a < R → ((ss.getD a 0).testBit c = true ↔ SymP (DefS f outs f.blocks.length 0) R a c)) (hb' : ∀ a c, a < R → ((ss'.getD a 0).testBit c = true ↔ SymP (DefS f outs' f.blocks.length 0) R a c)) : ss = ss' := by
  obtain ⟨_, rfl⟩ := h.unique h' hF
  apply List.ext_getElem (by rw [hl, hl'])
  intro i h1 h2
  have e1 : ss.getD i 0 = ss[i] := by rw [List.getD_eq_getElem?_getD, List.getElem?_eq_getElem h1]; rfl
  have e2 : ss'.getD i 0 = ss'[i] := by rw [List.getD_eq_getElem?_getD, List.getElem?_eq_getElem h2]; rfl
  rw [← e1, ← e2]
  apply Nat.eq_of_testBit_eq
  intro c
  rw [Bool.eq_iff_iff, hb i c (by omega), hb' i c (by omega)]
end Go.Proofs.YteknhnnlhhgppaaDoor
