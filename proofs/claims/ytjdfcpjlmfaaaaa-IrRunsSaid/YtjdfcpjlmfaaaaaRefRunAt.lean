/-
  The state of a run of the reference in memory (package ontimeref17: machine).
-/
import Derived.Test.YtjdfcpjlmfaaaaaIrStep
import Derived.Test.YtjdfcpjlmfaaaaaIrSame
import Derived.Test.YtjdfcpjlmfaaaaaIrFinish
namespace Go.Proofs.Ytjdfcpjlmfaaaaa
set_option linter.unusedVariables false
set_option linter.unusedSimpArgs false
open Go.RowKit
set_option maxRecDepth 100000

/-- what a machine holds from its beginning on, and where its parts lie -/
structure RGeo where
  nm : ByteArray
  rn : Int
  aa : Option Addr
  na : Nat
  ac : Nat
  ba : Option Addr
  nb : Nat
  bc : Nat
  sa : Option Addr
  ns : Nat
  sc : Nat
  ia : Option Addr
  ni : Nat
  ic : Nat
  mb : Nat
  rg : Nat
  cb : Nat
  oa : Option Addr
  oc : Nat
  pa : Option Addr
  pc : Nat
  rows : List Value
/-- the lock as the reference has it -/
def heldR (sh : List (ByteArray × Int)) (s : St) : Int := bif s.locked then idx sh s.held else -1
/-- the machine's fifteen cells -/
def mCells (G : RGeo) (sh : List (ByteArray × Int)) (uv : Value) (n er : Int) (s : St) : Array Value :=
  #[.string G.nm, .int .i64 G.rn, .slice G.aa G.na G.ac, .slice G.ba G.nb G.bc, .slice G.sa G.ns G.sc, .slice G.ia G.ni G.ic, .slice (some ⟨G.rg, 0, none⟩) s.regs.length s.regs.length, .slice (some ⟨G.cb, 0, none⟩) 4 4, .int .i64 (heldR sh s),
    .slice G.oa G.na G.oc, .slice G.pa G.ns G.pc, uv, .int .i64 s.read, .int .i64 n, .int .i64 er]
/-- a run of the reference in memory: all of it in blocks from N on -/
structure RefAt (N : Nat) (G : RGeo) (sh : List (ByteArray × Int)) (w : World) (uv : Value) (n er : Int) (s : St) : Prop where
  wf : s.Wf
  run : w.heap[G.mb]? = some (.cells (mCells G sh uv n er s) 98)
  regs : w.heap[G.rg]? = some (.cells (w32 s.regs).toArray 21)
  cnts : w.heap[G.cb]? = some (.cells (w32 s.cnt).toArray 21)
  nrows : G.rows.length = s.mem.length
  nlen : G.na + G.ns = s.mem.length
  rows : ∀ j, j < s.mem.length → w.ownsRow N 21 1 (G.rows.getD j undef) (s.row j).length (w32 (s.row j))
  va : w.ownsRow N 35 1 (.slice G.oa G.na G.oc) G.na (G.rows.take G.na)
  vo : w.ownsRow N 35 1 (.slice G.pa G.ns G.pc) G.ns (G.rows.drop G.na)
  out : w.ownsRow N 80 2 uv s.out.length (outs s.out)
  mb_ : N ≤ G.mb
  rg_ : N ≤ G.rg
  cb_ : N ≤ G.cb
  ne : G.rg ≠ G.cb
  rne : ∀ j, j < s.mem.length → (G.rows.getD j undef).ownBlock ≠ some G.rg ∧ (G.rows.getD j undef).ownBlock ≠ some G.cb
  rrn : ∀ i j, i < s.mem.length → j < s.mem.length → i ≠ j → (G.rows.getD i undef).ownBlock = none ∨ (G.rows.getD i undef).ownBlock ≠ (G.rows.getD j undef).ownBlock
  lk : s.locked = true → s.held ∈ sh.map (·.1)
section
variable {N : Nat} {G : RGeo} {sh : List (ByteArray × Int)} {w w' : World} {uv : Value} {n er : Int} {s s' : St}
theorem ne_of_type {b c : Nat} {arr arr' : Array Value} {t t' : TypeId} (h : w.heap[b]? = some (.cells arr t)) (h' : w.heap[c]? = some (.cells arr' t')) (hne : t ≠ t') : b ≠ c := by
  rintro rfl
  rw [h] at h'
  injection h' with h'
  injection h' with _ e
  exact hne e
theorem own_ne_type {N' : Nat} {e t : TypeId} {size m b : Nat} {v : Value} {xs : List Value} {arr : Array Value} (h : w.ownsRow N' e size v m xs) (hb : w.heap[b]? = some (.cells arr t)) (hT : t ≠ e) : v.ownBlock ≠ some b := by
  intro e1
  rcases h.2 with ⟨rfl, _⟩ | ⟨g, cap, cur, rfl, _, hc, _⟩
  · cases e1
  · have e1 : g = b := by injection e1
    subst e1
    rw [hb] at hc
    injection hc with hc
    injection hc with _ e2
    exact hT e2
theorem own_move {N' : Nat} {e : TypeId} {size m b : Nat} {v : Value} {xs : List Value} (h : w.ownsRow N' e size v m xs) (hne : v.ownBlock ≠ some b) (i : Nat) (u : Value) : (w.setCell ⟨b, i, none⟩ u).ownsRow N' e size v m xs :=
  ownsRow_move h (fun k hk _ => Below.heap_setCell _ _ _ _ (by rintro rfl; exact hne hk))
theorem RefAt.keep (h : RefAt N G sh w uv n er s) (hb : Below w.heap.size w w') : RefAt N G sh w' uv n er s :=
  { h with
    run := (hb.block _ (lt_heap h.run)).trans h.run
    regs := (hb.block _ (lt_heap h.regs)).trans h.regs
    cnts := (hb.block _ (lt_heap h.cnts)).trans h.cnts
    rows := fun j hj => ownsRow_below (h.rows j hj) hb
    va := ownsRow_below h.va hb
    vo := ownsRow_below h.vo hb
    out := ownsRow_below h.out hb }
theorem RefAt.cell (h : RefAt N G sh w uv n er s) (k : Nat) : w.cell? ⟨G.mb, k, none⟩ = (mCells G sh uv n er s)[k]? := cell_heap h.run k
theorem RefAt.free (h : RefAt N G sh w uv n er s) (k : Nat) : w.frozen? ⟨G.mb, k, none⟩ = false := frozen_heap h.run k
theorem RefAt.reg (h : RefAt N G sh w uv n er s) {k : Nat} (hk : k < s.regs.length) : w.cell? ⟨G.rg, k, none⟩ = some (.int .i32 (s.reg k)) := by
  rw [cell_heap h.regs]
  simp [w32, St.reg, hk]
theorem RefAt.regw (h : RefAt N G sh w uv n er s) {k : Nat} (hk : k < s.regs.length) : Wd.W (s.reg k) := by
  refine h.wf.regs _ ?_
  simp [St.reg, hk]
theorem RefAt.cnt (h : RefAt N G sh w uv n er s) {k : Nat} (hk : k < 4) : w.cell? ⟨G.cb, k, none⟩ = some (.int .i32 (s.count k)) := by
  have := h.wf.cnt
  rw [cell_heap h.cnts]
  simp [w32, St.count, this, hk]
theorem RefAt.cntw (h : RefAt N G sh w uv n er s) {k : Nat} (hk : k < 4) : Wd.W (s.count k) := by
  have := h.wf.cnt
  refine h.wf.cnts _ ?_
  simp [St.count, this, hk]
/-- a register is set -/
theorem RefAt.setReg (h : RefAt N G sh w uv n er s) {k : Nat} {v : Int} (hv : Wd.W v) : RefAt N G sh (w.setCell ⟨G.rg, k, none⟩ (.int .i32 v)) uv n er (s.setReg k v) := by
  refine { h with wf := ⟨h.wf.cnt, fun x hx => ?_, h.wf.cnts, h.wf.mem, h.wf.held⟩, run := ?_, regs := ?_, cnts := ?_, rows := fun j hj => own_move (h.rows j hj) (h.rne j hj).1 _ _, va := own_move h.va (own_ne_type h.va h.regs (by decide)) _ _, vo := own_move h.vo (own_ne_type h.vo h.regs (by decide)) _ _, out := own_move h.out (own_ne_type h.out h.regs (by decide)) _ _ }
  · rcases List.mem_or_eq_of_mem_set hx with hx | rfl
    · exact h.wf.regs x hx
    · exact hv
  · rw [Below.heap_setCell _ _ _ _ (by exact ne_of_type h.run h.regs (by decide)), h.run]
    simp [mCells, St.setReg, heldR]
  · rw [setCell_heap h.regs]
    simp [w32, St.setReg, List.map_set]
  · rw [Below.heap_setCell _ _ _ _ (by exact h.ne.symm), h.cnts]
    rfl
/-- a counter is set -/
theorem RefAt.setCount (h : RefAt N G sh w uv n er s) {k : Nat} {v : Int} (hv : Wd.W v) : RefAt N G sh (w.setCell ⟨G.cb, k, none⟩ (.int .i32 v)) uv n er (s.setCount k v) := by
  have hl := h.wf.cnt
  refine { h with wf := ⟨by simp [St.setCount, hl], h.wf.regs, fun x hx => ?_, h.wf.mem, h.wf.held⟩, run := ?_, regs := ?_, cnts := ?_, rows := fun j hj => own_move (h.rows j hj) (h.rne j hj).2 _ _, va := own_move h.va (own_ne_type h.va h.cnts (by decide)) _ _, vo := own_move h.vo (own_ne_type h.vo h.cnts (by decide)) _ _, out := own_move h.out (own_ne_type h.out h.cnts (by decide)) _ _ }
  · rcases List.mem_or_eq_of_mem_set hx with hx | rfl
    · exact h.wf.cnts x hx
    · exact hv
  · rw [Below.heap_setCell _ _ _ _ (by exact ne_of_type h.run h.cnts (by decide)), h.run]
    simp [mCells, St.setCount, heldR]
  · rw [Below.heap_setCell _ _ _ _ (by exact h.ne), h.regs]
    rfl
  · rw [setCell_heap h.cnts]
    simp [w32, St.setCount, List.map_set]
/-- a cell of the machine is set -/
theorem RefAt.setBox {n' er' : Int} {k : Nat} {v : Value} (h : RefAt N G sh w uv n er s) (hw : s'.Wf) (hr : s'.regs = s.regs) (hcn : s'.cnt = s.cnt) (hm : s'.mem = s.mem) (ho : s'.out = s.out) (hlk : s'.locked = true → s'.held ∈ sh.map (·.1))
    (hc : (mCells G sh uv n er s).setIfInBounds k v = mCells G sh uv n' er' s') : RefAt N G sh (w.setCell ⟨G.mb, k, none⟩ v) uv n' er' s' := by
  have hrow : ∀ j, s'.row j = s.row j := fun j => by unfold St.row; rw [hm]
  refine ⟨hw, ?_, ?_, ?_, by rw [hm]; exact h.nrows, by rw [hm]; exact h.nlen, fun j hj => ?_, own_move h.va (own_ne_type h.va h.run (by decide)) _ _, own_move h.vo (own_ne_type h.vo h.run (by decide)) _ _, ?_, h.mb_, h.rg_, h.cb_, h.ne, by rw [hm]; exact h.rne, by rw [hm]; exact h.rrn, hlk⟩
  · rw [setCell_heap h.run, hc]
  · rw [Below.heap_setCell _ _ _ _ (by exact (ne_of_type h.run h.regs (by decide)).symm), h.regs, hr]
  · rw [Below.heap_setCell _ _ _ _ (by exact (ne_of_type h.run h.cnts (by decide)).symm), h.cnts, hcn]
  · rw [hm] at hj
    rw [hrow]
    exact own_move (h.rows j hj) (own_ne_type (h.rows j hj) h.run (by decide)) _ _
  · rw [ho]
    exact own_move h.out (own_ne_type h.out h.run (by decide)) _ _
theorem RefAt.setSteps (h : RefAt N G sh w uv n er s) (n' : Int) : RefAt N G sh (w.setCell ⟨G.mb, 13, none⟩ (.int .i64 n')) uv n' er s :=
  h.setBox h.wf rfl rfl rfl rfl h.lk (by simp [mCells])
theorem RefAt.setErr (h : RefAt N G sh w uv n er s) (e' : Int) : RefAt N G sh (w.setCell ⟨G.mb, 14, none⟩ (.int .i64 e')) uv n e' s :=
  h.setBox h.wf rfl rfl rfl rfl h.lk (by simp [mCells])
theorem RefAt.setRead (h : RefAt N G sh w uv n er s) (m : Nat) : RefAt N G sh (w.setCell ⟨G.mb, 12, none⟩ (.int .i64 (m : Int))) uv n er { s with read := m } :=
  h.setBox ⟨h.wf.cnt, h.wf.regs, h.wf.cnts, h.wf.mem, h.wf.held⟩ rfl rfl rfl rfl h.lk (by simp [mCells, heldR])
theorem RefAt.lock (h : RefAt N G sh w uv n er s) {b : ByteArray} (hb : b.size ≤ 9223372036854775807) (hm : b ∈ sh.map (·.1)) : RefAt N G sh (w.setCell ⟨G.mb, 8, none⟩ (.int .i64 (idx sh b))) uv n er { s with locked := true, held := b } :=
  h.setBox ⟨h.wf.cnt, h.wf.regs, h.wf.cnts, h.wf.mem, hb⟩ rfl rfl rfl rfl (fun _ => hm) (by simp [mCells, heldR])
theorem RefAt.unlock (h : RefAt N G sh w uv n er s) : RefAt N G sh (w.setCell ⟨G.mb, 8, none⟩ (.int .i64 (-1))) uv n er { s with locked := false, held := ⟨#[]⟩ } :=
  h.setBox ⟨h.wf.cnt, h.wf.regs, h.wf.cnts, h.wf.mem, (show ByteArray.size ⟨#[]⟩ ≤ 9223372036854775807 by decide)⟩ rfl rfl rfl rfl (fun e => by cases e) (by simp [mCells, heldR])
/-- a word of a row is set -/
theorem RefAt.setRow (h : RefAt N G sh w uv n er s) {j b k c : Nat} {v : Int} (hj : j < s.mem.length) (hb : G.rows.getD j undef = .slice (some ⟨b, 0, none⟩) (s.row j).length c) (hk : k < (s.row j).length) (hv : Wd.W v) :
    RefAt N G sh (w.setCell ⟨b, k, none⟩ (.int .i32 v)) uv n er { s with mem := s.mem.set j ((s.row j).set k v) } := by
  have hbo : (G.rows.getD j undef).ownBlock = some b := by rw [hb]; rfl
  have hn := h.rne j hj
  rw [hbo] at hn
  have n1 : G.rg ≠ b := fun e => hn.1 (by rw [e])
  have n2 : G.cb ≠ b := fun e => hn.2 (by rw [e])
  have hrj := h.rows j hj
  rw [hb] at hrj
  obtain ⟨cur0, hblk⟩ : ∃ cur, w.heap[b]? = some (.cells cur 21) := by
    rcases hrj.2 with ⟨e, _⟩ | ⟨g', cap, cur, e, _, hc, _⟩
    · cases e
    · injection e with e1 _ _
      injection e1 with e1
      injection e1 with e1
      subst e1
      exact ⟨cur, hc⟩
  have hlen : (s.mem.set j ((s.row j).set k v)).length = s.mem.length := by simp
  have hrow : ∀ i, i ≠ j → St.row { s with mem := s.mem.set j ((s.row j).set k v) } i = s.row i := fun i hi => by unfold St.row; simp [List.getElem?_set, hi.symm]
  have hrowj : St.row { s with mem := s.mem.set j ((s.row j).set k v) } j = (s.row j).set k v := by show (s.mem.set j ((s.row j).set k v)).getD j [] = _; simp [hj]
  have hwf : St.Wf { s with mem := s.mem.set j ((s.row j).set k v) } := by
    refine ⟨h.wf.cnt, h.wf.regs, h.wf.cnts, fun r hr x hx => ?_, h.wf.held⟩
    have hin : s.row j ∈ s.mem := by unfold St.row; simp [hj]
    rcases List.mem_or_eq_of_mem_set hr with hr | rfl
    · exact h.wf.mem r hr x hx
    · rcases List.mem_or_eq_of_mem_set hx with hx | rfl
      · exact h.wf.mem _ hin x hx
      · exact hv
  refine ⟨hwf, ?_, ?_, ?_, by rw [hlen]; exact h.nrows, by rw [hlen]; exact h.nlen, fun i hi => ?_, own_move h.va (own_ne_type h.va hblk (by decide)) _ _, own_move h.vo (own_ne_type h.vo hblk (by decide)) _ _, own_move h.out (own_ne_type h.out hblk (by decide)) _ _, h.mb_, h.rg_, h.cb_, h.ne, by rw [hlen]; exact h.rne, by rw [hlen]; exact h.rrn, h.lk⟩
  · rw [Below.heap_setCell _ _ _ _ (by exact ne_of_type h.run hblk (by decide))]; exact h.run
  · rw [Below.heap_setCell _ _ _ _ (by exact n1)]; exact h.regs
  · rw [Below.heap_setCell _ _ _ _ (by exact n2)]; exact h.cnts
  · rw [hlen] at hi
    by_cases hij : i = j
    · subst hij
      rw [hrowj, hb]
      obtain ⟨o1, o2⟩ := hrj
      refine ⟨by simp [w32], .inr ?_⟩
      rcases o2 with ⟨hv0, _⟩ | ⟨g', cap, cur, hv0, hg', hc, hn', hm', hs', ht'⟩
      · cases hv0
      · injection hv0 with e1 e2 e3
        injection e1 with e1
        injection e1 with e1
        subst e1 e3
        refine ⟨b, c, cur.setIfInBounds k (.int .i32 v), by simp, hg', setCell_heap hc, by simpa using hn', hm', by simpa using hs', ?_⟩
        rw [Array.toList_setIfInBounds, List.length_set, List.take_set, ht']
        simp [w32, List.map_set]
    · rw [hrow i hij]
      refine own_move (h.rows i hi) ?_ _ _
      rcases h.rrn i j hi hj hij with e | e
      · rw [e]; intro e2; cases e2
      · rw [hbo] at e; exact e
theorem RefAt.rowCell {j b c k : Nat} (h : RefAt N G sh w uv n er s) (hj : j < s.mem.length) (hv : G.rows.getD j undef = .slice (some ⟨b, 0, none⟩) (s.row j).length c) (hk : k < (s.row j).length) : w.cell? ⟨b, k, none⟩ = some (.int .i32 ((s.row j).getD k 0)) := by
  have ho := h.rows j hj
  rw [hv] at ho
  have := ho.cells rfl k (.int .i32 ((s.row j).getD k 0)) (by simp [w32, hk])
  have e : (⟨b, 0, none⟩ : Addr).add k = ⟨b, k, none⟩ := by
    unfold Addr.add
    by_cases h0 : k = 0 <;> simp [h0]
  rwa [e] at this
theorem RefAt.rowFree {j b c : Nat} (h : RefAt N G sh w uv n er s) (hj : j < s.mem.length) (hv : G.rows.getD j undef = .slice (some ⟨b, 0, none⟩) (s.row j).length c) (i : Nat) : w.frozen? ⟨b, i, none⟩ = false := by
  have ho := h.rows j hj
  rw [hv] at ho
  rcases ho.2 with ⟨h0, _⟩ | ⟨g', cap, cur, h1, _, h2, _⟩
  · cases h0
  · injection h1 with h1
    injection h1 with h1
    injection h1 with h1
    subst h1
    exact frozen_heap h2 i
/-- the row of an array, as the outer row has it -/
theorem RefAt.rowA {j : Nat} (h : RefAt N G sh w uv n er s) (hj : j < G.na) : ∃ ob, G.oa = some ⟨ob, 0, none⟩ ∧ w.cell? ⟨ob, j, none⟩ = some (G.rows.getD j undef) := by
  have ho := h.va
  obtain ⟨ob, he⟩ := ownsRow_some ho (by omega)
  refine ⟨ob, he, ?_⟩
  rw [he] at ho
  have hjr : j < G.rows.length := by have := h.nrows; have := h.nlen; omega
  have := ho.cells rfl j (G.rows.getD j undef) (by rw [List.getElem?_take, if_pos hj]; simp [hjr])
  rwa [addr_add, Nat.zero_add] at this
theorem RefAt.rowO {j : Nat} (h : RefAt N G sh w uv n er s) (hj : j < G.ns) : ∃ ob, G.pa = some ⟨ob, 0, none⟩ ∧ w.cell? ⟨ob, j, none⟩ = some (G.rows.getD (G.na + j) undef) := by
  have ho := h.vo
  obtain ⟨ob, he⟩ := ownsRow_some ho (by omega)
  refine ⟨ob, he, ?_⟩
  rw [he] at ho
  have hjr : G.na + j < G.rows.length := by have := h.nrows; have := h.nlen; omega
  have := ho.cells rfl j (G.rows.getD (G.na + j) undef) (by rw [List.getElem?_drop]; simp [hjr])
  rwa [addr_add, Nat.zero_add] at this
/-- an output more -/
theorem RefAt.push {V w2 : World} {gb cap : Nat} {i x : Int} (h : RefAt N G sh w uv n er s) (hB : Below w.heap.size w V) (hg : V.grownBy w2 uv.ownBlock) (ho : w2.ownsRow N 80 2 (.slice (some ⟨gb, 0, none⟩) (s.out.length + 1) cap) (s.out.length + 1) (outs s.out ++ [.int .i64 i, .int .i32 x])) :
    RefAt N G sh (w2.setCell ⟨G.mb, 11, none⟩ (.slice (some ⟨gb, 0, none⟩) (s.out.length + 1) cap)) (.slice (some ⟨gb, 0, none⟩) (s.out.length + 1) cap) n er { s with out := s.out ++ [(i, x)] } := by
  have hV := h.keep hB
  have keepB : ∀ {b : Nat} {arr : Array Value} {t : TypeId}, V.heap[b]? = some (.cells arr t) → t ≠ 80 → w2.heap[b]? = some (.cells arr t) := fun hb ht =>
    (hg.block _ (lt_heap hb) (fun e => own_ne_type hV.out hb ht e.symm)).trans hb
  have keepR : ∀ {e : TypeId} {size m : Nat} {v : Value} {xs : List Value}, V.ownsRow N e size v m xs → e ≠ 80 → w2.ownsRow N e size v m xs := fun {e size m v xs} hr ht => by
    refine ownsRow_move hr (fun k hk hl => hg.block _ hl ?_)
    rcases hr.2 with ⟨rfl, _⟩ | ⟨g', cap', cur, rfl, _, hc, _⟩
    · cases hk
    · have hk : g' = k := by injection hk
      subst hk
      exact fun e2 => own_ne_type hV.out hc ht e2.symm
  have hrun := keepB hV.run (by decide)
  refine ⟨⟨h.wf.cnt, h.wf.regs, h.wf.cnts, h.wf.mem, h.wf.held⟩, ?_, ?_, ?_, h.nrows, h.nlen, fun j hj => ?_, ?_, ?_, ?_, h.mb_, h.rg_, h.cb_, h.ne, h.rne, h.rrn, h.lk⟩
  · rw [setCell_heap hrun]
    simp [mCells, heldR]
  · exact (Below.heap_setCell _ _ _ _ (by exact (ne_of_type hV.run hV.regs (by decide)).symm)).trans (keepB hV.regs (by decide))
  · exact (Below.heap_setCell _ _ _ _ (by exact (ne_of_type hV.run hV.cnts (by decide)).symm)).trans (keepB hV.cnts (by decide))
  · have h9 := keepR (hV.rows j hj) (by decide)
    exact own_move h9 (own_ne_type h9 hrun (by decide)) _ _
  · have h9 := keepR hV.va (by decide)
    exact own_move h9 (own_ne_type h9 hrun (by decide)) _ _
  · have h9 := keepR hV.vo (by decide)
    exact own_move h9 (own_ne_type h9 hrun (by decide)) _ _
  · have e : (outs s.out ++ [Value.int .i64 i, .int .i32 x]) = outs (s.out ++ [(i, x)]) := by simp [outs]
    rw [e] at ho
    simp only [List.length_append, List.length_singleton]
    exact own_move ho (own_ne_type ho hrun (by decide)) _ _
theorem RefAt.pushBelow {V w2 : World} {v : Value} {k : Nat} (h : RefAt N G sh w uv n er s) (hB : Below w.heap.size w V) (hN : N ≤ w.heap.size) (hg : V.grownBy w2 uv.ownBlock) : Below N w (w2.setCell ⟨G.mb, k, none⟩ v) := by
  have h1 : Below N w w2 := (hB.mono hN).grown hg (Nat.le_trans hN hB.size) (fun k hk => (ownsRow_lt (h.keep hB).out hk).1)
  exact h1.setCell h.mb_ _
end
end Go.Proofs.Ytjdfcpjlmfaaaaa
