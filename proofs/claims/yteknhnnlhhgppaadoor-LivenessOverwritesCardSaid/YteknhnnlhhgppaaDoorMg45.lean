/-
  Mg45: several texts in one (CpAt, TurnL, OverL).
-/
import Derived.Test.YteknhnnlhhgppaaDoorCopied19
import Derived.Test.YteknhnnlhhgppaaDoorMergeP
import Derived.Test.YteknhnnlhhgppaaDoorMg0
import Derived.Test.YteknhnnlhhgppaaDoorMg16
import Derived.Deep.QuietTactic
import Derived.BigQuiet
import Derived.Test.YteknhnnlhhgppaaDoorMg37
import Derived.Test.YteknhnnlhhgppaaDoorMergeV
/-
  A copied function that is changed in place: where block k's code lies; the closure that turns a register (package ontimelaw19).
-/
namespace Go.Proofs.YteknhnnlhhgppaaDoor
set_option linter.unusedVariables false
set_option linter.unusedSimpArgs false
open Go.RowKit
set_option maxRecDepth 100000
set_option maxHeartbeats 8000000

/-- the copied blocks L in memory; block k's code lies at ca -/
def CpAt (N : Nat) (w : World) (g n c : Nat) (L : List Blk) (k : Nat) (ca : Option Addr) (cc : Nat) : Prop :=
  ∃ l, BlkOwn N 43 54 w (.slice (some ⟨g, 0, none⟩) n c) l ∧ l.map (·.blk) = L ∧ L.length = n ∧ ∃ p, l[k]? = some p ∧ p.a = ca ∧ p.c = cc
section
variable {N g n c k cc m : Nat} {w w' : World} {L : List Blk} {ca : Option Addr} {b : Blk} {i i' : Ins}
theorem CpAt.keep (h : CpAt N w g n c L k ca cc) (hb : Below w.heap.size w w') : CpAt N w' g n c L k ca cc := by
  obtain ⟨l, h1, h2⟩ := h
  exact ⟨l, h1.keep hb, h2⟩
theorem CpAt.to (h : CpAt N w g n c L k ca cc) {j : Nat} (hj : j < n) : ∃ ca' cc', CpAt N w g n c L j ca' cc' := by
  obtain ⟨l, h1, h2, h3, _⟩ := h
  have hl : j < l.length := by rw [← h3, ← h2, List.length_map] at hj; exact hj
  exact ⟨_, _, l, h1, h2, h3, l[j], List.getElem?_eq_getElem hl, rfl, rfl⟩
theorem CpAt.low (h : CpAt N w g n c L k ca cc) : N ≤ g ∧ g < w.heap.size := by
  obtain ⟨l, h1, _⟩ := h
  exact ownsRow_lt h1.row rfl
theorem CpAt.blk (h : CpAt N w g n c L k ca cc) (hb : L[k]? = some b) : w.cell? ⟨g, k * 5, none⟩ = some (.slice ca b.code.length cc) ∧ w.cell? ⟨g, k * 5 + 1, none⟩ = some (.int .u8 b.kind) ∧ w.cell? ⟨g, k * 5 + 2, none⟩ = some (.int .i64 b.x) ∧ (∀ j, w.frozen? ⟨g, j, none⟩ = false) ∧ b.code.length ≤ 1000000 ∧ b.Wf := by
  obtain ⟨l, h1, rfl, h3, p, hp, rfl, rfl⟩ := h
  rw [List.getElem?_map, hp] at hb
  obtain rfl : p.blk = b := by simpa using hb
  have cell : ∀ o u, o < 5 → p.cells[o]? = some u → w.cell? ⟨g, k * 5 + o, none⟩ = some u := fun o u ho hu => own_cell h1.row ((flat_get BlkP.cells_len hp ho).trans hu)
  exact ⟨cell 0 _ (by omega) rfl, cell 1 _ (by omega) rfl, cell 2 _ (by omega) rfl, fun j => row_free h1.row j, h1.small p (List.mem_of_getElem? hp), h1.wf p (List.mem_of_getElem? hp)⟩
theorem CpAt.ins (h : CpAt N w g n c L k ca cc) (hb : L[k]? = some b) (hi : b.code[m]? = some i) : ∃ cb, ca = some ⟨cb, 0, none⟩ ∧ N ≤ cb ∧ cb < w.heap.size ∧ (∀ o u, o < 6 → i.cells[o]? = some u → w.cell? ⟨cb, m * 6 + o, none⟩ = some u) ∧ (∀ j, w.frozen? ⟨cb, j, none⟩ = false) ∧ i.Wf := by
  obtain ⟨l, h1, rfl, h3, p, hp, rfl, rfl⟩ := h
  rw [List.getElem?_map, hp] at hb
  obtain rfl : p.blk = b := by simpa using hb
  have hpm := List.mem_of_getElem? hp
  have hc := h1.code p hpm
  have hm := (List.getElem?_eq_some_iff.1 hi).1
  obtain ⟨cb, e, hN, hl, _⟩ := own_some (show w.ownsRow N 54 6 (.slice p.a p.blk.code.length p.c) p.blk.code.length (codeCells p.blk.code) from hc) (by omega)
  unfold BlkP.code at hc
  rw [e] at hc
  exact ⟨cb, e, hN, hl, fun o u ho hu => own_cell hc ((flat_get Ins.cells_len hi ho).trans hu), fun j => row_free hc j, h1.iwf p hpm i (List.mem_of_getElem? hi)⟩
/-- a field of an instruction is stored -/
theorem CpAt.setIns {cb o : Nat} {u : Value} (h : CpAt N w g n c L k (some ⟨cb, 0, none⟩) cc) (hb : L[k]? = some b) (hi : b.code[m]? = some i) (ho : o < 6) (hw : i'.Wf) (hc : i'.cells = i.cells.set o u) :
    CpAt N (w.setCell ⟨cb, m * 6 + o, none⟩ u) g n c (L.set k { b with code := b.code.set m i' }) k (some ⟨cb, 0, none⟩) cc := by
  obtain ⟨l, h1, rfl, h3, p, hp, ha, rfl⟩ := h
  rw [List.getElem?_map, hp] at hb
  obtain rfl : p.blk = b := by simpa using hb
  have hkl := (List.getElem?_eq_some_iff.1 hp).1
  refine ⟨_, h1.setIns hp hi ho hw hc ha, ?_, by rw [List.length_set]; exact h3, _, List.getElem?_set_self hkl, ha, rfl⟩
  rw [List.map_set]
/-- a field of a block is stored -/
theorem CpAt.setX {q : Blk} {u : Value} (h : CpAt N w g n c L k ca cc) (hb : L[k]? = some b) (hq : q.code = b.code) (hw : q.Wf) (hc : ∀ a c, (BlkP.mk q a c).cells = (BlkP.mk b a c).cells.set 2 u) :
    CpAt N (w.setCell ⟨g, k * 5 + 2, none⟩ u) g n c (L.set k q) k ca cc := by
  obtain ⟨l, h1, rfl, h3, p, hp, rfl, rfl⟩ := h
  rw [List.getElem?_map, hp] at hb
  obtain rfl : p.blk = b := by simpa using hb
  have hkl := (List.getElem?_eq_some_iff.1 hp).1
  refine ⟨_, h1.setBlk (by rw [← h3, List.length_map]) hp (by omega) hq hw (hc p.a p.c), ?_, by rw [List.length_set]; exact h3, _, List.getElem?_set_self hkl, rfl, rfl⟩
  rw [List.map_set]
/-- as a function in memory -/
theorem CpAt.blks (h : CpAt N w g n c L k ca cc) : BlksAt w (some ⟨g, 0, none⟩) L := by
  obtain ⟨l, h1, rfl, h3, p, hp, _⟩ := h
  have hll : l.length = n := by rw [← h3, List.length_map]
  obtain ⟨a9, c9, e9, hb9, _⟩ := h1.toRow.blks (by rw [hll]; have := ownsRow_len h1.row; omega)
  injection e9 with e9
  subst e9
  exact hb9
end
/-- the closure turns a register: what is b becomes a -/
theorem turn_any (gb off ab bb : Nat) (r a b : Int) (w : World) (hr : w.cell? ⟨gb, off, none⟩ = some (.int .i64 r)) (hz : w.frozen? ⟨gb, off, none⟩ = false) (hb : w.cell? ⟨bb, 0, none⟩ = some (.int .i64 b)) (ha : w.cell? ⟨ab, 0, none⟩ = some (.int .i64 a)) :
    Calls Tryd.prog 33 #[.pointer (some ⟨gb, off, none⟩), .pointer (some ⟨bb, 0, none⟩), .pointer (some ⟨ab, 0, none⟩)] w fun e w' => e = .returned (.tuple #[]) ∧ ∃ V, (∃ m, V = World.drewN w m) ∧ w' = V.setCell ⟨gb, off, none⟩ (.int .i64 (thR a b r)) := by
  by_cases h : r = b
  · subst h
    have HT : Hid (thR a r r = a) := if_pos rfl
    rw [HT.out]
    have q1 : (r == r) = true := by simp
    go_enter Tryd.func33, Tryd.ntmps33
    go_wp2_with fail
    go_quiet (fail)
    generalize hV : World.drewN _ _ = V
    have HV : Hid (∃ m, V = World.drewN w m) := ⟨_, hV.symm⟩
    have HB := Lib.hid (below_drew HV.out)
    have r1 := cell_below HB.out hr
    have r2 := cell_below HB.out ha
    have z1 : V.frozen? ⟨gb, off, none⟩ = false := by rw [← hV]; exact hz
    clear hV hr hz hb ha
    go_wp2_with fail
    go_end0
    exact ⟨rfl, V, HV.out, rfl⟩
  · have HT : Hid (thR a b r = r) := if_neg h
    rw [HT.out]
    have q1 : (r == b) = false := by simpa using h
    have q2 : decide (r = b) = false := decide_eq_false h
    clear h
    go_enter Tryd.func33, Tryd.ntmps33
    go_wp2_with fail
    go_quiet (fail)
    generalize hV : World.drewN _ _ = V
    have HV : Hid (∃ m, V = World.drewN w m) := ⟨_, hV.symm⟩
    have HB := Lib.hid (below_drew HV.out)
    have HR := Lib.hid (cell_below HB.out hr)
    clear hV hr hz hb ha
    go_wp2_with fail
    go_end0
    exact ⟨rfl, V, HV.out, (setCell_self HR.out).symm⟩
end Go.Proofs.YteknhnnlhhgppaaDoor

/-
  Two registers in one place: how far the copied blocks are turned, in memory (layer 19).
-/
namespace Go.Proofs.YteknhnnlhhgppaaDoor
set_option linter.unusedVariables false
set_option linter.unusedSimpArgs false
open Go.RowKit
set_option maxRecDepth 100000
set_option maxHeartbeats 8000000

section
variable {α : Type} {f : α → α} {l : List α} {k : Nat} {x : α}
theorem part_len : ((l.take k).map f ++ l.drop k).length = l.length := by simp; omega
theorem part_get (h : l[k]? = some x) : ((l.take k).map f ++ l.drop k)[k]? = some x := by
  have hk := (List.getElem?_eq_some_iff.1 h).1
  rw [List.getElem?_append_right (by simp; omega), List.length_map, List.length_take, Nat.min_eq_left (by omega), Nat.sub_self, List.getElem?_drop, Nat.add_zero]
  exact h
theorem part_set (h : l[k]? = some x) : ((l.take k).map f ++ l.drop k).set k (f x) = (l.take (k + 1)).map f ++ l.drop (k + 1) := by
  obtain ⟨hk, rfl⟩ := List.getElem?_eq_some_iff.1 h
  rw [List.set_append_right _ _ (by simp; omega), List.length_map, List.length_take, Nat.min_eq_left (by omega), Nat.sub_self, List.drop_eq_getElem_cons hk, List.set_cons_zero, List.take_succ_eq_append_getElem hk, List.map_append, List.append_assoc]
  rfl
theorem part_all (h : l.length ≤ k) : (l.take k).map f ++ l.drop k = l.map f := by
  rw [List.take_of_length_le h, List.drop_eq_nil_of_le h, List.append_nil]
end
def turnTo (a b : Int) (k : Nat) (F : List Blk) : List Blk := (F.take k).map (turnBlk a b) ++ F.drop k
def turnCode (a b : Int) (m : Nat) (c : List Ins) : List Ins := (c.take m).map (turnI a b) ++ c.drop m
section
variable {a b : Int} {k m : Nat} {q : Blk} {F : List Blk}
theorem turn_start (h : F[k]? = some q) : turnTo a b k F = (turnTo a b k F).set k { q with code := turnCode a b 0 q.code } := by
  have e : ({ q with code := turnCode a b 0 q.code } : Blk) = q := rfl
  rw [e]
  apply List.ext_getElem?
  intro i
  rw [List.getElem?_set]
  split
  · rename_i e2
    subst e2
    have h9 : (turnTo a b k F)[k]? = some q := part_get h
    rw [if_pos (List.getElem?_eq_some_iff.1 h9).1]
    exact h9
  · rfl
theorem turn_end (h : F[k]? = some q) : (turnTo a b k F).set k (turnBlk a b q) = turnTo a b (k + 1) F := part_set h
theorem code_end : turnCode a b q.code.length q.code = q.code.map (turnI a b) := part_all (Nat.le_refl _)
theorem code_next {i : Ins} (h : q.code[m]? = some i) : (turnCode a b m q.code).set m (turnI a b i) = turnCode a b (m + 1) q.code := part_set h
theorem code_same {i : Ins} (h : q.code[m]? = some i) : (turnCode a b m q.code).set m i = turnCode a b m q.code := by
  apply List.ext_getElem?
  intro j
  rw [List.getElem?_set]
  split
  · rename_i e2
    subst e2
    have h9 : (turnCode a b m q.code)[m]? = some i := part_get h
    rw [if_pos (List.getElem?_eq_some_iff.1 h9).1]
    exact h9.symm
  · rfl
end
theorem row_ty {N : Nat} {T : TypeId} {w : World} {g c n m s : Nat} {xs : List Value} (h : w.ownsRow N T s (.slice (some ⟨g, 0, none⟩) m c) n xs) : ∃ arr f, w.heap[g]? = some (.cells arr T f) := by
  rcases h.2 with ⟨e1, _⟩ | ⟨g', cap, cur, e1, _, hc, _⟩
  · cases e1
  · injection e1 with e1 _ _
    injection e1 with e1
    injection e1 with e1
    subst e1
    exact ⟨_, _, hc⟩
/-- the copied blocks, and the box of the copied function -/
structure MgAt (w6 : World) (gb g n c : Nat) (arr : Array Value) (wr : World) (L : List Blk) (k : Nat) (ca : Option Addr) (cc : Nat) : Prop where
  low : Below w6.heap.size w6 wr
  box : wr.heap[gb]? = some (.cells arr 25)
  cp : CpAt w6.heap.size wr g n c L k ca cc
section
variable {w6 wr V : World} {gb g n c k m cc cb o : Nat} {arr : Array Value} {ca : Option Addr} {a b : Int} {q q' : Blk} {F : List Blk} {C : List Ins} {i i' : Ins} {u : Value}
theorem MgAt.keep (h : MgAt w6 gb g n c arr wr F k ca cc) (hb : Below wr.heap.size wr V) : MgAt w6 gb g n c arr V F k ca cc :=
  ⟨mem_then h.low hb, mem_keep h.box hb, h.cp.keep hb⟩
theorem MgAt.to (h : MgAt w6 gb g n c arr wr F k ca cc) {j : Nat} (hj : j < n) : ∃ ca' cc', MgAt w6 gb g n c arr wr F j ca' cc' := by
  obtain ⟨ca', cc', h'⟩ := h.cp.to hj
  exact ⟨ca', cc', h.low, h.box, h'⟩
theorem MgAt.at_ (h : MgAt w6 gb g n c arr wr ((turnTo a b k F).set k q) k ca cc) (hk : k < F.length) : ((turnTo a b k F).set k q)[k]? = some q := List.getElem?_set_self (by unfold turnTo; rw [part_len]; exact hk)
theorem MgAt.fields (h : MgAt w6 gb g n c arr wr ((turnTo a b k F).set k { q with code := C.set m i }) k (some ⟨cb, 0, none⟩) cc) (hk : k < F.length) (hm : m < C.length) :
    w6.heap.size ≤ cb ∧ (∀ o u, o < 6 → i.cells[o]? = some u → wr.cell? ⟨cb, m * 6 + o, none⟩ = some u) ∧ (∀ j, wr.frozen? ⟨cb, j, none⟩ = false) ∧ i.Wf := by
  obtain ⟨cb', e, h1, _, h2, h3, h4⟩ := h.cp.ins (h.at_ hk) (List.getElem?_set_self hm)
  cases e
  exact ⟨h1, h2, h3, h4⟩
theorem MgAt.step (h : MgAt w6 gb g n c arr wr ((turnTo a b k F).set k { q with code := C.set m i }) k (some ⟨cb, 0, none⟩) cc) (hk : k < F.length) (hm : m < C.length) (ho : o < 6) (hw : i'.Wf) (hc : i'.cells = i.cells.set o u) (hV : ∃ t, V = World.drewN wr t) :
    MgAt w6 gb g n c arr (V.setCell ⟨cb, m * 6 + o, none⟩ u) ((turnTo a b k F).set k { q with code := C.set m i' }) k (some ⟨cb, 0, none⟩) cc := by
  have hh := h.keep (below_drew hV)
  have hat := hh.at_ hk
  have hi : (C.set m i)[m]? = some i := List.getElem?_set_self hm
  have hcp := hh.cp.setIns hat hi ho hw hc
  rw [List.set_set, List.set_set] at hcp
  obtain ⟨cb', e, h1, _⟩ := hh.cp.ins hat hi
  cases e
  refine ⟨hh.low.setCell h1 _, (Below.heap_setCell _ _ _ _ ?_).trans hh.box, hcp⟩
  obtain ⟨l, k1, k2, _, p, hp, ha, _⟩ := hh.cp
  have hc1 := k1.code p (List.mem_of_getElem? hp)
  unfold BlkP.code at hc1
  rw [ha] at hc1
  obtain ⟨ar2, f2, hty⟩ := row_ty hc1
  have hbx := hh.box
  show gb ≠ cb
  rintro rfl
  rw [hty] at hbx
  injection hbx with hbx
  injection hbx with _ e2
  exact absurd e2 (by decide)
/-- the closure's answer at a field of the instruction -/
theorem MgAt.turn (h : MgAt w6 gb g n c arr wr ((turnTo a b k F).set k q) k ca cc) (hk : k < F.length) (hq : q'.code = q.code) (hw : q'.Wf) (hc : ∀ a c, (BlkP.mk q' a c).cells = (BlkP.mk q a c).cells.set 2 u) (hV : ∃ t, V = World.drewN wr t) :
    MgAt w6 gb g n c arr (V.setCell ⟨g, k * 5 + 2, none⟩ u) ((turnTo a b k F).set k q') k ca cc := by
  have hh := h.keep (below_drew hV)
  have hcp := hh.cp.setX (hh.at_ hk) hq hw hc
  rw [List.set_set] at hcp
  refine ⟨hh.low.setCell hh.cp.low.1 _, (Below.heap_setCell _ _ _ _ ?_).trans hh.box, hcp⟩
  obtain ⟨l, k1, _⟩ := hh.cp
  obtain ⟨ar2, f2, hty⟩ := row_ty k1.row
  have hbx := hh.box
  show gb ≠ g
  rintro rfl
  rw [hty] at hbx
  injection hbx with hbx
  injection hbx with _ e2
  exact absurd e2 (by decide)
/-- the six cells of the instruction at hand -/
theorem MgAt.six {op d x y imm : Int} {sym : ByteArray} (h : MgAt w6 gb g n c arr wr ((turnTo a b k F).set k { q with code := C.set m ⟨op, d, x, y, imm, sym⟩ }) k (some ⟨cb, 0, none⟩) cc) (hk : k < F.length) (hm : m < C.length) :
    (wr.cell? ⟨cb, m * 6, none⟩ = some (.int .u8 op) ∧ wr.cell? ⟨cb, m * 6 + 1, none⟩ = some (.int .i64 d) ∧ wr.cell? ⟨cb, m * 6 + 2, none⟩ = some (.int .i64 x) ∧ wr.cell? ⟨cb, m * 6 + 3, none⟩ = some (.int .i64 y) ∧ wr.cell? ⟨cb, m * 6 + 4, none⟩ = some (.int .i64 imm) ∧ wr.cell? ⟨cb, m * 6 + 5, none⟩ = some (.string sym)) ∧ (∀ j, wr.frozen? ⟨cb, j, none⟩ = false) ∧ (⟨op, d, x, y, imm, sym⟩ : Ins).Wf := by
  obtain ⟨_, h1, h2, h3⟩ := h.fields hk hm
  exact ⟨⟨h1 0 _ (by omega) rfl, h1 1 _ (by omega) rfl, h1 2 _ (by omega) rfl, h1 3 _ (by omega) rfl, h1 4 _ (by omega) rfl, h1 5 _ (by omega) rfl⟩, h2, h3⟩
/-- the block at hand -/
theorem MgAt.head (h : MgAt w6 gb g n c arr wr ((turnTo a b k F).set k q) k ca cc) (hk : k < F.length) : wr.cell? ⟨g, k * 5, none⟩ = some (.slice ca q.code.length cc) ∧ wr.cell? ⟨g, k * 5 + 1, none⟩ = some (.int .u8 q.kind) ∧ wr.cell? ⟨g, k * 5 + 2, none⟩ = some (.int .i64 q.x) ∧ (∀ j, wr.frozen? ⟨g, j, none⟩ = false) ∧ q.Wf := by
  obtain ⟨h1, h2, h3, h4, _, h5⟩ := h.cp.blk (h.at_ hk)
  exact ⟨h1, h2, h3, h4, h5⟩
theorem MgAt.code (h : MgAt w6 gb g n c arr wr ((turnTo a b k F).set k q) k ca cc) (hk : k < F.length) (hm : m < q.code.length) : ∃ cb, ca = some ⟨cb, 0, none⟩ := by
  obtain ⟨cb, e, _⟩ := h.cp.ins (m := m) (h.at_ hk) (List.getElem?_eq_getElem hm)
  exact ⟨cb, e⟩
theorem isI64_th {r : Int} (ha : isI64 a) (h : isI64 r) : isI64 (thR a b r) := by
  unfold thR; split <;> assumption
end
end Go.Proofs.YteknhnnlhhgppaaDoor

/-
  Registers that are not live are set: the copied blocks in memory (layer 19).
-/
namespace Go.Proofs.YteknhnnlhhgppaaDoor
set_option linter.unusedVariables false
set_option linter.unusedSimpArgs false
open Go.RowKit
set_option maxRecDepth 100000
set_option maxHeartbeats 8000000

/-- the instructions that set the first registers, those that are live apart; the last one comes first -/
def overP (L : Nat) (v : Int) : Nat → List Ins
  | 0 => []
  | r + 1 => if L.testBit r = true then overP L v r else setI v r :: overP L v r
theorem overP_live {L r : Nat} {v : Int} (h : L.testBit r = true) : overP L v (r + 1) = overP L v r := if_pos h
theorem overP_dead {L r : Nat} {v : Int} (h : L.testBit r = false) : overP L v (r + 1) = setI v r :: overP L v r := if_neg (by rw [h]; simp)
theorem overP_mem {L : Nat} {v : Int} {i : Ins} : ∀ {r : Nat}, i ∈ overP L v r → ∃ x, x < r ∧ i = setI v x ∧ L.testBit x = false
  | 0, h => by cases h
  | r + 1, h => by
    cases hb : L.testBit r with
    | true => rw [overP_live hb] at h; obtain ⟨x, h1, h2⟩ := overP_mem h; exact ⟨x, by omega, h2⟩
    | false =>
      rw [overP_dead hb] at h
      rcases List.mem_cons.1 h with h | h
      · exact ⟨r, by omega, h, hb⟩
      · obtain ⟨x, h1, h2⟩ := overP_mem h
        exact ⟨x, by omega, h2⟩
theorem overP_len (L : Nat) (v : Int) : ∀ r : Nat, (overP L v r).length ≤ r
  | 0 => by simp [overP]
  | r + 1 => by
    have := overP_len L v r
    cases hb : L.testBit r with
    | true => rw [overP_live hb]; omega
    | false => rw [overP_dead hb, List.length_cons]; omega
theorem overP_deadP (R L : Nat) (v : Int) : DeadP R L (overP L v R) := fun i hi => by
  obtain ⟨x, h1, h2, h3⟩ := overP_mem hi
  exact ⟨v, x, h2, h1, h3⟩
theorem overP_word (R L : Nat) (v : Int) (hv : -2147483648 ≤ v ∧ v ≤ 2147483647) : WordP R (overP L v R) := fun i hi => by
  obtain ⟨x, h1, h2, _⟩ := overP_mem hi
  exact ⟨v, x, h2, h1, hv⟩
theorem setI_wf {v : Int} {r : Nat} (hv : -2147483648 ≤ v ∧ v ≤ 2147483647) (hr : r ≤ 1000) : (setI v r).Wf := by
  refine ⟨?_, ?_, ?_, ?_, ?_, ?_, ?_⟩ <;> first | (show (0 : Int) ≤ 1; omega) | (show (1 : Int) ≤ 255; omega) | (unfold setI isI64; simp <;> omega) | (show (⟨#[]⟩ : ByteArray).size ≤ 9223372036854775807; decide)
theorem putAt_one {α : Type} {l P : List α} {i : Nat} {x : α} (hi : i ≤ l.length) : (putAt l i P).take i ++ [x] ++ (putAt l i P).drop i = putAt l i (x :: P) := by
  unfold putAt
  rw [List.append_assoc (l.take i), List.take_append_of_le_length (by simp; omega), List.take_of_length_le (by simp; omega), List.drop_append_of_le_length (by simp; omega), List.drop_eq_nil_of_le (by simp; omega), List.nil_append]
  simp
theorem putAt_len {α : Type} {l P : List α} {i : Nat} (hi : i ≤ l.length) : (putAt l i P).length = l.length + P.length := by unfold putAt; simp; omega
theorem putAt_of {α : Type} {l P : List α} {i : Nat} {x : α} (h : x ∈ l) : x ∈ putAt l i P := by
  rw [← List.take_append_drop i l] at h
  unfold putAt
  rcases List.mem_append.1 h with h | h
  · exact List.mem_append_left _ (List.mem_append_left _ h)
  · exact List.mem_append_right _ h
theorem putAt_none {α : Type} {l : List α} {i : Nat} : putAt l i [] = l := by unfold putAt; simp
theorem set_same {α : Type} {l : List α} {k : Nat} {x y : α} (h : l[k]? = some x) (e : y = x) : l.set k y = l := by
  subst e
  apply List.ext_getElem?
  intro j
  rw [List.getElem?_set]
  split
  · rename_i e
    subst e
    rw [if_pos (List.getElem?_eq_some_iff.1 h).1]
    exact h.symm
  · rfl
theorem putFn_set {f : Fn} {k0 i0 : Nat} {P : List Ins} {q0 : Blk} (h : f.blocks[k0]? = some q0) : f.blocks.set k0 (putBlk q0 i0 P) = putFn f k0 i0 P := by
  unfold putFn
  apply List.ext_getElem?
  intro j
  rw [List.getElem?_mapIdx, List.getElem?_set]
  by_cases e : k0 = j
  · subst e
    rw [if_pos rfl, if_pos (List.getElem?_eq_some_iff.1 h).1, h]
    show _ = some (if k0 = k0 then _ else _)
    rw [if_pos rfl]
  · rw [if_neg e]
    cases hj : f.blocks[j]? with
    | none => rfl
    | some q =>
      show _ = some (if j = k0 then _ else _)
      rw [if_neg (fun h => e h.symm)]
section
variable {w6 wr V w2 : World} {gb g n c k cc gx cap : Nat} {arr : Array Value} {ca : Option Addr} {q : Blk} {L : List Blk} {code : List Ins}
/-- the code's row, and what it is apart from -/
theorem MgAt.codeRow (h : MgAt w6 gb g n c arr wr L k ca cc) (hq : L[k]? = some q) : wr.ownsRow w6.heap.size 54 6 (.slice ca q.code.length cc) q.code.length (codeCells q.code) ∧ (Value.slice ca q.code.length cc).ownBlock ≠ some gb ∧ (Value.slice ca q.code.length cc).ownBlock ≠ some g ∧ ∀ z ∈ q.code, z.Wf := by
  obtain ⟨l, k1, hL, hn, p, hpk, ha, hc⟩ := h.cp
  subst hL
  rw [List.getElem?_map, hpk] at hq
  obtain rfl : p.blk = q := by simpa using hq
  have hpc : p.code = .slice ca p.blk.code.length cc := by unfold BlkP.code; rw [ha, hc]
  have hpm := List.mem_of_getElem? hpk
  have hrow := k1.code p hpm
  have hap := k1.apart p hpm
  rw [hpc] at hrow hap
  refine ⟨hrow, fun e => ?_, fun e => ?_, k1.iwf p hpm⟩
  · exact ownsRow_ne hrow h.box (by decide) e
  · rcases hap with h9 | h9
    · rw [e] at h9; cases h9
    · exact h9 e.symm
theorem MgAt.put (h : MgAt w6 gb g n c arr wr L k ca cc) (hq : L[k]? = some q) (hB : Below wr.heap.size wr V) (hw : ∀ i ∈ code, i.Wf) (hs : code.length ≤ 1000000)
    (hg : V.grownBy w2 (Value.slice ca q.code.length cc).ownBlock) (ho : w2.ownsRow w6.heap.size 54 6 (.slice (some ⟨gx, 0, none⟩) code.length cap) code.length (codeCells code)) (hp : (Value.slice ca q.code.length cc).ownBlock = some gx ∨ V.heap.size ≤ gx) :
    MgAt w6 gb g n c arr (w2.setCell ⟨g, k * 5, none⟩ (.slice (some ⟨gx, 0, none⟩) code.length cap)) (L.set k { q with code := code }) k (some ⟨gx, 0, none⟩) cap := by
  have hh := h.keep hB
  have hlow := h.cp.low
  have hlowV := hh.cp.low
  obtain ⟨l, k1, hL, hn, p, hpk, ha, hc⟩ := h.cp
  subst hL
  rw [List.getElem?_map, hpk] at hq
  obtain rfl : p.blk = q := by simpa using hq
  have hpc : p.code = .slice ca p.blk.code.length cc := by unfold BlkP.code; rw [ha, hc]
  rw [← hpc] at hg hp
  have hpm := List.mem_of_getElem? hpk
  have hkl := (List.getElem?_eq_some_iff.1 hpk).1
  have hown : ∀ b, p.code.ownBlock = some b → w6.heap.size ≤ b := fun b hb => (ownsRow_lt (k1.code p hpm) hb).1
  have hbox : w2.heap[gb]? = some (.cells arr 25) := by
    have hb1 := hh.box
    refine (hg.block gb (Array.getElem?_eq_some_iff.1 hb1).1 (fun e => ?_)).trans hb1
    have hrow := (k1.keep hB).code p hpm
    rw [hpc] at e hrow
    cases ca with
    | none => cases e
    | some ad =>
      obtain ⟨g9, e9, _⟩ : ∃ g9 : Nat, ad = ⟨g9, 0, none⟩ ∧ True := by
        rcases hrow.2 with ⟨e1, _⟩ | ⟨g', cap', cur', e1, _⟩
        · cases e1
        · injection e1 with e1
          injection e1 with e1
          exact ⟨g', e1, trivial⟩
      subst e9
      have e : gb = g9 := by injection e
      subst e
      obtain ⟨ar2, f2, hty⟩ := row_ty hrow
      rw [hty] at hb1
      injection hb1 with hb1
      injection hb1 with _ e2
      exact absurd e2 (by decide)
  have hgb : gb ≠ g := by
    rintro rfl
    obtain ⟨ar2, f2, hty⟩ := row_ty k1.row
    have hb1 := h.box
    rw [hty] at hb1
    injection hb1 with hb1
    injection hb1 with _ e2
    exact absurd e2 (by decide)
  have hlow2 : Below w6.heap.size w6 w2 := by
    have hl := hh.low
    exact ⟨hg.os.trans hl.os, hg.tape.trans hl.tape, hg.output.trans hl.output, Nat.le_trans hl.size hg.size, fun b hb => (hg.block b (Nat.lt_of_lt_of_le hb hl.size) (fun e => by have := hown b e.symm; omega)).trans (hl.block b hb)⟩
  refine ⟨hlow2.setCell hlow.1 _, (Below.heap_setCell _ _ _ _ hgb).trans hbox, _, k1.putCode (by rw [← hn, List.length_map]) hpk hB hw hs hg ho hp, ?_, by rw [List.length_set]; exact hn, _, List.getElem?_set_self hkl, rfl, rfl⟩
  rw [List.map_set]
end
end Go.Proofs.YteknhnnlhhgppaaDoor
