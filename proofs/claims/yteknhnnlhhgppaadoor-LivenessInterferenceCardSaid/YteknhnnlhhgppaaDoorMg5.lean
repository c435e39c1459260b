/-
  Mg5: several texts in one (IrRunAt, IrBuild).
-/
import Derived.Test.YteknhnnlhhgppaaDoorMg1
import Derived.Test.YteknhnnlhhgppaaDoorMg4
/-
  The state of a run in memory (package ir: runner).
-/
namespace Go.Proofs.YteknhnnlhhgppaaDoor
set_option linter.unusedVariables false
set_option linter.unusedSimpArgs false
open Go.RowKit
set_option maxRecDepth 100000

/-- where the parts of a run lie: the runner, its registers, its map; the rows of the arrays; the inputs -/
structure Geo where
  rb : Nat
  rg : Nat
  mb : Nat
  rows : List Value
  inv : Value
def w32 (l : List Int) : List Value := l.map (Value.int .i32)
def outs (l : List (Int × Int)) : List Value := l.flatMap fun p => [.int .i64 p.1, .int .i32 p.2]
/-- the runner's eleven cells -/
def runCells (g : Geo) (ov : Value) (s : St) : Array Value :=
  #[.slice (some ⟨g.rg, 0, none⟩) s.regs.length s.regs.length, .int .i32 (s.cnt.getD 0 0), .int .i32 (s.cnt.getD 1 0), .int .i32 (s.cnt.getD 2 0), .int .i32 (s.cnt.getD 3 0), .map (some g.mb), .bool s.locked, .string s.held, g.inv, ov, .int .i64 s.read]
/-- the words of a state -/
structure St.Wf (s : St) : Prop where
  cnt : s.cnt.length = 4
  regs : ∀ x ∈ s.regs, Wd.W x
  cnts : ∀ x ∈ s.cnt, Wd.W x
  mem : ∀ r ∈ s.mem, ∀ x ∈ r, Wd.W x
  held : s.held.size ≤ 9223372036854775807
/-- a run in memory: all of it in blocks from N on -/
structure RunAt (N : Nat) (g : Geo) (names : List ByteArray) (w : World) (ov : Value) (s : St) : Prop where
  wf : s.Wf
  run : w.heap[g.rb]? = some (.cells (runCells g ov s) 147)
  regs : w.heap[g.rg]? = some (.cells (w32 s.regs).toArray 21)
  map : MapAt Tryd.prog 9 w g.mb (names.zip g.rows)
  nrows : g.rows.length = s.mem.length
  nnames : names.length = s.mem.length
  rows : ∀ j, j < s.mem.length → w.ownsRow N 21 1 (g.rows.getD j undef) (s.row j).length (w32 (s.row j))
  out : w.ownsRow N 118 2 ov s.out.length (outs s.out)
  rb_ : N ≤ g.rb
  rg_ : N ≤ g.rg
  mb_ : N ≤ g.mb
  ne1 : g.rb ≠ g.rg
  ne2 : g.rb ≠ g.mb
  ne3 : g.rg ≠ g.mb
  rne : ∀ j, j < s.mem.length → (g.rows.getD j undef).ownBlock ≠ some g.rb ∧ (g.rows.getD j undef).ownBlock ≠ some g.rg ∧ (g.rows.getD j undef).ownBlock ≠ some g.mb ∧ ((g.rows.getD j undef).ownBlock = none ∨ (g.rows.getD j undef).ownBlock ≠ ov.ownBlock)
  rrn : ∀ i j, i < s.mem.length → j < s.mem.length → i ≠ j → (g.rows.getD i undef).ownBlock = none ∨ (g.rows.getD i undef).ownBlock ≠ (g.rows.getD j undef).ownBlock
  one : ov.ownBlock ≠ some g.rb ∧ ov.ownBlock ≠ some g.rg ∧ ov.ownBlock ≠ some g.mb

theorem cell_heap {w : World} {b : Nat} {arr : Array Value} {t : TypeId} (h : w.heap[b]? = some (.cells arr t)) (i : Nat) : w.cell? ⟨b, i, none⟩ = arr[i]? := by
  simp [World.cell?, h]
theorem setCell_heap {w : World} {b i : Nat} {arr : Array Value} {t : TypeId} {v : Value} (h : w.heap[b]? = some (.cells arr t)) : (w.setCell ⟨b, i, none⟩ v).heap[b]? = some (.cells (arr.setIfInBounds i v) t) := by
  simp [World.setCell, Array.getElem?_modify, h]
theorem ownsRow_move {w w' : World} {base : Nat} {e : TypeId} {size : Nat} {v : Value} {n : Nat} {xs : List Value} (h : w.ownsRow base e size v n xs) (hb : ∀ k, v.ownBlock = some k → k < w.heap.size → w'.heap[k]? = w.heap[k]?) : w'.ownsRow base e size v n xs := by
  obtain ⟨h1, h2⟩ := h
  refine ⟨h1, ?_⟩
  rcases h2 with h2 | ⟨g, cap, cur, rfl, hg, hc, r⟩
  · exact .inl h2
  · exact .inr ⟨g, cap, cur, rfl, hg, (hb g rfl (Array.getElem?_eq_some_iff.1 hc).1).trans hc, r⟩
theorem ownsRow_lt {w : World} {base : Nat} {e : TypeId} {size : Nat} {v : Value} {n : Nat} {xs : List Value} (h : w.ownsRow base e size v n xs) {k : Nat} (hk : v.ownBlock = some k) : base ≤ k ∧ k < w.heap.size := by
  rcases h.2 with ⟨rfl, _⟩ | ⟨g, cap, cur, rfl, hg, hc, r⟩
  · cases hk
  · cases hk; exact ⟨hg, (Array.getElem?_eq_some_iff.1 hc).1⟩
section
variable {N : Nat} {g : Geo} {names : List ByteArray} {w : World} {ov : Value} {s : St}
theorem lt_heap {w : World} {b : Nat} {o : Obj} (h : w.heap[b]? = some o) : b < w.heap.size := (Array.getElem?_eq_some_iff.1 h).1
/-- nothing of the run has turned -/
theorem RunAt.keep {w' : World} (h : RunAt N g names w ov s) (hb : Below w.heap.size w w') : RunAt N g names w' ov s :=
  { h with
    run := (hb.block _ (lt_heap h.run)).trans h.run
    regs := (hb.block _ (lt_heap h.regs)).trans h.regs
    map := h.map.below hb
    rows := fun j hj => ownsRow_below (h.rows j hj) hb
    out := ownsRow_below h.out hb }
/-- a register is set -/
theorem RunAt.setReg (h : RunAt N g names w ov s) {k : Nat} {v : Int} (hv : Wd.W v) : RunAt N g names (w.setCell ⟨g.rg, k, none⟩ (.int .i32 v)) ov (s.setReg k v) := by
  have other : ∀ b, b ≠ g.rg → (w.setCell ⟨g.rg, k, none⟩ (.int .i32 v)).heap[b]? = w.heap[b]? := fun b hb => Below.heap_setCell _ _ _ _ hb
  refine { h with wf := ⟨h.wf.cnt, fun x hx => ?_, h.wf.cnts, h.wf.mem, h.wf.held⟩, run := ?_, regs := ?_, map := h.map.move (other _ h.ne3.symm), rows := fun j hj => ownsRow_move (h.rows j hj) (fun b hb _ => other b ?_), out := ownsRow_move h.out (fun b hb _ => other b ?_) }
  · rcases List.mem_or_eq_of_mem_set hx with hx | rfl
    · exact h.wf.regs x hx
    · exact hv
  · rw [other _ h.ne1, h.run]
    simp [runCells, St.setReg]
  · rw [setCell_heap h.regs]
    simp [w32, St.setReg, List.map_set]
  · rintro rfl; exact (h.rne j hj).2.1 hb
  · rintro rfl; exact h.one.2.1 hb
/-- a cell of the runner is set -/
theorem RunAt.setCell (h : RunAt N g names w ov s) {k : Nat} {v : Value} {s' : St} (hw : s'.Wf) (hr : s'.regs = s.regs) (hm : s'.mem = s.mem) (ho : s'.out = s.out) (hc : (runCells g ov s).setIfInBounds k v = runCells g ov s') : RunAt N g names (w.setCell ⟨g.rb, k, none⟩ v) ov s' := by
  have other : ∀ b, b ≠ g.rb → (w.setCell ⟨g.rb, k, none⟩ v).heap[b]? = w.heap[b]? := fun b hb => Below.heap_setCell _ _ _ _ hb
  have hrow : ∀ j, s'.row j = s.row j := fun j => by unfold St.row; rw [hm]
  refine ⟨hw, ?_, ?_, h.map.move (other _ h.ne2.symm), by rw [hm]; exact h.nrows, by rw [hm]; exact h.nnames, fun j hj => ?_, ?_, h.rb_, h.rg_, h.mb_, h.ne1, h.ne2, h.ne3, by rw [hm]; exact h.rne, by rw [hm]; exact h.rrn, h.one⟩
  · rw [setCell_heap h.run, hc]
  · rw [other _ h.ne1.symm, hr]; exact h.regs
  · rw [hm] at hj
    rw [hrow]
    refine ownsRow_move (h.rows j hj) (fun b hb _ => other b ?_)
    rintro rfl; exact (h.rne j hj).1 hb
  · rw [ho]
    refine ownsRow_move h.out (fun b hb _ => other b ?_)
    rintro rfl; exact h.one.1 hb
/-- a word of a row is set -/
theorem RunAt.setRow (h : RunAt N g names w ov s) {j b k c : Nat} {v : Int} (hj : j < s.mem.length) (hb : g.rows.getD j undef = .slice (some ⟨b, 0, none⟩) (s.row j).length c) (hk : k < (s.row j).length) (hv : Wd.W v) :
    RunAt N g names (w.setCell ⟨b, k, none⟩ (.int .i32 v)) ov { s with mem := s.mem.set j ((s.row j).set k v) } := by
  have hbo : (g.rows.getD j undef).ownBlock = some b := by rw [hb]; rfl
  have other : ∀ x, x ≠ b → (w.setCell ⟨b, k, none⟩ (.int .i32 v)).heap[x]? = w.heap[x]? := fun x hx => Below.heap_setCell _ _ _ _ hx
  have hn := h.rne j hj
  rw [hbo] at hn
  obtain ⟨n1, n2, n3, n4⟩ := hn
  have n1 : g.rb ≠ b := fun e => n1 (by rw [e])
  have n2 : g.rg ≠ b := fun e => n2 (by rw [e])
  have n3 : g.mb ≠ b := fun e => n3 (by rw [e])
  have hlen : (s.mem.set j ((s.row j).set k v)).length = s.mem.length := by simp
  have hrow : ∀ i, i ≠ j → St.row { s with mem := s.mem.set j ((s.row j).set k v) } i = s.row i := fun i hi => by unfold St.row; simp [List.getElem?_set, hi.symm]
  have hrowj : St.row { s with mem := s.mem.set j ((s.row j).set k v) } j = (s.row j).set k v := by show (s.mem.set j ((s.row j).set k v)).getD j [] = _; simp [hj]
  have hwf : St.Wf { s with mem := s.mem.set j ((s.row j).set k v) } := by
    refine ⟨h.wf.cnt, h.wf.regs, h.wf.cnts, fun r hr x hx => ?_, h.wf.held⟩
    have hin : s.row j ∈ s.mem := by unfold St.row; simp [hj]
    rcases List.mem_or_eq_of_mem_set hr with hr | rfl
    · exact h.wf.mem r hr x hx
    · rcases List.mem_or_eq_of_mem_set hx with hx | rfl
      · exact h.wf.mem _ hin x hx
      · exact hv
  refine ⟨hwf, ?_, ?_, h.map.move (other _ n3), by rw [hlen]; exact h.nrows, by rw [hlen]; exact h.nnames, fun i hi => ?_, ?_, h.rb_, h.rg_, h.mb_, h.ne1, h.ne2, h.ne3, by rw [hlen]; exact h.rne, by rw [hlen]; exact h.rrn, h.one⟩
  · rw [other _ n1]; exact h.run
  · rw [other _ n2]; exact h.regs
  · rw [hlen] at hi
    by_cases hij : i = j
    · subst hij
      rw [hrowj]
      have ho := h.rows i hi
      rw [hb] at ho ⊢
      obtain ⟨o1, o2⟩ := ho
      refine ⟨by simp [w32], .inr ?_⟩
      rcases o2 with ⟨hv0, _⟩ | ⟨g', cap, cur, hv0, hg', hc, hn', hm', hs', ht'⟩
      · cases hv0
      · injection hv0 with e1 e2 e3
        injection e1 with e1
        injection e1 with e1
        subst e1 e3
        refine ⟨b, c, cur.setIfInBounds k (.int .i32 v), by simp, hg', setCell_heap hc, by simpa using hn', hm', by simpa using hs', ?_⟩
        rw [Array.toList_setIfInBounds, List.length_set, List.take_set, ht']
        simp [w32, List.map_set]
    · rw [hrow i hij]
      refine ownsRow_move (h.rows i hi) (fun x hx _ => other x ?_)
      rintro rfl
      rcases h.rrn i j hi hj hij with e | e
      · rw [hx] at e; cases e
      · rw [hx, hbo] at e; exact e rfl
  · refine ownsRow_move h.out (fun x hx _ => other x ?_)
    rintro rfl
    rcases n4 with e | e
    · cases e
    · exact e hx.symm
end
/-- a block that a run may write -/
def Ours (g : Geo) (ov : Value) (k : Nat) : Prop := k = g.rb ∨ k = g.rg ∨ ov.ownBlock = some k ∨ ∃ j, j < g.rows.length ∧ (g.rows.getD j undef).ownBlock = some k
/-- what a run leaves alone -/
structure Frame (g : Geo) (ov ov' : Value) (w w' : World) : Prop where
  os : w'.os = w.os
  tape : w'.tape = w.tape
  output : w'.output = w.output
  size : w.heap.size ≤ w'.heap.size
  block : ∀ k, k < w.heap.size → ¬ Ours g ov k → w'.heap[k]? = w.heap[k]?
  ovs : ∀ k, ov'.ownBlock = some k → ov.ownBlock = some k ∨ w.heap.size ≤ k
section
variable {N : Nat} {g : Geo} {names : List ByteArray} {w w' w'' : World} {ov ov' ov'' : Value} {s : St}
theorem Frame.ours (h : Frame g ov ov' w w') {k : Nat} (hk : k < w.heap.size) (h0 : ¬ Ours g ov k) : ¬ Ours g ov' k := by
  intro h1
  apply h0
  rcases h1 with h1 | h1 | h1 | h1
  · exact .inl h1
  · exact .inr (.inl h1)
  · rcases h.ovs k h1 with h2 | h2
    · exact .inr (.inr (.inl h2))
    · omega
  · exact .inr (.inr (.inr h1))
theorem Frame.refl : Frame g ov ov w w := ⟨rfl, rfl, rfl, Nat.le_refl _, fun _ _ _ => rfl, fun _ h => .inl h⟩
theorem Frame.trans (h : Frame g ov ov' w w') (h' : Frame g ov' ov'' w' w'') : Frame g ov ov'' w w'' :=
  ⟨h'.os.trans h.os, h'.tape.trans h.tape, h'.output.trans h.output, Nat.le_trans h.size h'.size,
   fun k hk h0 => (h'.block k (Nat.lt_of_lt_of_le hk h.size) (h.ours hk h0)).trans (h.block k hk h0),
   fun k hk => by
     rcases h'.ovs k hk with h2 | h2
     · exact h.ovs k h2
     · exact .inr (Nat.le_trans h.size h2)⟩
theorem Frame.of_below (h : Below w.heap.size w w') : Frame g ov ov w w' := ⟨h.os, h.tape, h.output, h.size, fun k hk _ => h.block k hk, fun _ h => .inl h⟩
theorem Frame.setCell (b k : Nat) (v : Value) (hb : Ours g ov b) : Frame g ov ov w (w.setCell ⟨b, k, none⟩ v) :=
  ⟨rfl, rfl, rfl, by simp, fun x _ h0 => Below.heap_setCell _ _ _ _ (fun e => h0 (by rw [show x = b from e]; exact hb)), fun _ h => .inl h⟩
theorem Frame.drew (h : Frame g ov ov' w w') : Frame g ov ov' w w'.drew := ⟨h.os, h.tape, h.output, h.size, h.block, h.ovs⟩
theorem RunAt.ours (h : RunAt N g names w ov s) {k : Nat} (hk : Ours g ov k) : N ≤ k ∧ k < w.heap.size := by
  rcases hk with rfl | rfl | hk | ⟨j, hj, hk⟩
  · exact ⟨h.rb_, lt_heap h.run⟩
  · exact ⟨h.rg_, lt_heap h.regs⟩
  · exact ownsRow_lt h.out hk
  · exact ownsRow_lt (h.rows j (by rw [← h.nrows]; exact hj)) hk
theorem Frame.below (h : Frame g ov ov' w w') (hr : RunAt N g names w ov s) : Below N w w' :=
  ⟨h.os, h.tape, h.output, h.size, fun k hk => by
    by_cases hs : k < w.heap.size
    · exact h.block k hs (fun h0 => by have := (hr.ours h0).1; omega)
    · have := hr.rb_; have := lt_heap hr.run; omega⟩
theorem RunAt.same {w' : World} (h : RunAt N g names w ov s) (hb : w'.heap = w.heap) : RunAt N g names w' ov s :=
  { h with
    run := by rw [hb]; exact h.run
    regs := by rw [hb]; exact h.regs
    map := h.map.move (by rw [hb])
    rows := fun j hj => ownsRow_move (h.rows j hj) (fun k _ _ => by rw [hb])
    out := ownsRow_move h.out (fun k _ _ => by rw [hb]) }
end
end Go.Proofs.YteknhnnlhhgppaaDoor

/-
  Rows of instructions and of blocks that a call builds itself (layer 17). No program is named here.
-/
namespace Go.Proofs.YteknhnnlhhgppaaDoor
set_option linter.unusedVariables false
set_option linter.unusedSimpArgs false
open Go.RowKit
set_option maxRecDepth 100000

/-! ### flat rows -/
theorem flat_len {α : Type} {f : α → List Value} {n : Nat} (h : ∀ x, (f x).length = n) (l : List α) : (l.flatMap f).length = l.length * n := by
  induction l with
  | nil => simp
  | cons x l ih => rw [List.flatMap_cons, List.length_append, ih, h, List.length_cons, Nat.succ_mul, Nat.add_comm]
theorem flat_get {α : Type} {f : α → List Value} {n : Nat} (h : ∀ x, (f x).length = n) : ∀ {l : List α} {k : Nat} {x : α} {o : Nat}, l[k]? = some x → o < n → (l.flatMap f)[k * n + o]? = (f x)[o]? := by
  intro l
  induction l with
  | nil => intro k x o hk; cases hk
  | cons y l ih =>
    intro k x o hk ho
    rw [List.flatMap_cons]
    match k, hk with
    | 0, hk =>
      cases hk
      rw [Nat.zero_mul, Nat.zero_add, List.getElem?_append_left (by rw [h]; exact ho)]
    | k + 1, hk =>
      have e : (k + 1) * n + o = n + (k * n + o) := by rw [Nat.succ_mul]; omega
      rw [e, List.getElem?_append_right (by rw [h]; omega), h, Nat.add_sub_cancel_left]
      exact ih hk ho
theorem flat_snoc {α : Type} {f : α → List Value} (l : List α) (x : α) : (l ++ [x]).flatMap f = l.flatMap f ++ f x := by simp
theorem take_snoc {α : Type} {l : List α} {k : Nat} {x : α} (h : l[k]? = some x) : l.take (k + 1) = l.take k ++ [x] := by
  obtain ⟨hk, rfl⟩ := List.getElem?_eq_some_iff.1 h
  exact List.take_succ_eq_append_getElem hk

/-! ### instructions -/
def Ins.cells (i : Ins) : List Value := [.int .u8 i.op, .int .i64 i.dst, .int .i64 i.x, .int .i64 i.y, .int .i64 i.imm, .string i.sym]
theorem Ins.cells_len (i : Ins) : i.cells.length = 6 := rfl
def codeCells (l : List Ins) : List Value := l.flatMap Ins.cells
theorem own_cell {w : World} {base : Nat} {e : TypeId} {size gb m n cap : Nat} {xs : List Value} {j : Nat} {u : Value} (h : w.ownsRow base e size (.slice (some ⟨gb, 0, none⟩) m cap) n xs) (hu : xs[j]? = some u) : w.cell? ⟨gb, j, none⟩ = some u := by
  have := h.cells (v := .slice (some ⟨gb, 0, none⟩) m cap) rfl j u hu
  have e : (⟨gb, 0, none⟩ : Addr).add j = ⟨gb, j, none⟩ := by
    unfold Addr.add
    by_cases h0 : j = 0 <;> simp [h0]
  rwa [e] at this
/-- an address lies from a block on, below another one -/
def LiesIn (N M : Nat) (a : Option Addr) : Prop := ∀ d, a = some d → N ≤ d.block ∧ d.block < M
theorem LiesIn.mono {N N' M M' : Nat} {a : Option Addr} (h : LiesIn N M a) (h1 : N' ≤ N) (h2 : M ≤ M') : LiesIn N' M' a := fun d hd => ⟨Nat.le_trans h1 (h d hd).1, Nat.lt_of_lt_of_le (h d hd).2 h2⟩
/-- the address of a slice -/
theorem code_own {w : World} {N : Nat} {T : TypeId} {v : Value} {l : List Ins} (h : w.ownsRow N T 6 v l.length (codeCells l)) (hw : ∀ i ∈ l, i.Wf) (hf : l.length ≤ 9223372036854775807) :
    ∃ a c, v = .slice a l.length c ∧ CodeAt w a l ∧ LiesIn N w.heap.size a ∧ l.length ≤ c ∧ (∀ d, a = some d → v.ownBlock = some d.block) := by
  rcases ownsRow_form h with ⟨rfl, h0⟩ | ⟨g, cap, rfl, h1, h2, h3⟩
  · exact ⟨none, 0, by rw [h0], ⟨hf, hw, .inl h0⟩, fun d hd => (by cases hd), by omega, fun d hd => (by cases hd)⟩
  · refine ⟨some ⟨g, 0, none⟩, cap, rfl, ⟨hf, hw, .inr ⟨g, 0, rfl, fun k i hk => ?_⟩⟩, fun d hd => (by cases hd; exact ⟨h1, h2⟩), h3, fun d hd => (by cases hd; rfl)⟩
    have key : ∀ o u, o < 6 → i.cells[o]? = some u → w.cell? ⟨g, k * 6 + o, none⟩ = some u := fun o u ho hu => own_cell h ((flat_get Ins.cells_len hk ho).trans hu)
    rw [Nat.zero_add]
    exact ⟨key 0 _ (by omega) rfl, key 1 _ (by omega) rfl, key 2 _ (by omega) rfl, key 3 _ (by omega) rfl, key 4 _ (by omega) rfl, key 5 _ (by omega) rfl⟩
theorem CodeAt.move {w w' : World} {a : Option Addr} {l : List Ins} (h : CodeAt w a l) (hm : ∀ d, a = some d → d.block < w.heap.size → w'.heap[d.block]? = w.heap[d.block]?) : CodeAt w' a l := by
  refine ⟨h.fits, h.wf, ?_⟩
  rcases h.at_ with h0 | ⟨b, off, ha, hk⟩
  · exact .inl h0
  · refine .inr ⟨b, off, ha, fun k i hi => ?_⟩
    have hI := hk k i hi
    have hb : w'.heap[b]? = w.heap[b]? := hm _ ha (World.block_lt_of_cell? w ⟨b, off + k * 6, none⟩ hI.c0)
    have go : ∀ {o : Nat} {v : Value}, w.cell? ⟨b, o, none⟩ = some v → w'.cell? ⟨b, o, none⟩ = some v := fun hv => (World.cell?_of_block (a := ⟨b, _, none⟩) hb).trans hv
    exact ⟨go hI.c0, go hI.c1, go hI.c2, go hI.c3, go hI.c4, go hI.c5⟩

/-! ### blocks -/
/-- a block, and where its code lies -/
structure BlkP where
  blk : Blk
  a : Option Addr
  c : Nat
def BlkP.cells (p : BlkP) : List Value := [.slice p.a p.blk.code.length p.c, .int .u8 p.blk.kind, .int .i64 p.blk.x, .int .i64 p.blk.to, .int .i64 p.blk.els]
theorem BlkP.cells_len (p : BlkP) : p.cells.length = 5 := rfl
/-- a row of blocks of the call's own: the row from block N on, their code from there on, too, and elsewhere -/
structure BlkRow (N : Nat) (T : TypeId) (w : World) (v : Value) (l : List BlkP) : Prop where
  row : w.ownsRow N T 5 v l.length (l.flatMap BlkP.cells)
  wf : ∀ p ∈ l, p.blk.Wf
  code : ∀ p ∈ l, CodeAt w p.a p.blk.code
  lies : ∀ p ∈ l, LiesIn N w.heap.size p.a
  apart : ∀ p ∈ l, ∀ d, p.a = some d → v.ownBlock ≠ some d.block
theorem BlkRow.nil {N : Nat} {T : TypeId} {w : World} : BlkRow N T w (.slice none 0 0) [] :=
  ⟨⟨rfl, .inl ⟨rfl, rfl⟩⟩, fun p hp => (by cases hp), fun p hp => (by cases hp), fun p hp => (by cases hp), fun p hp => (by cases hp)⟩
section
variable {N : Nat} {T : TypeId} {w w' : World} {v : Value} {l : List BlkP}
theorem BlkRow.keep (h : BlkRow N T w v l) (hb : Below w.heap.size w w') : BlkRow N T w' v l :=
  ⟨ownsRow_below h.row hb, h.wf, fun p hp => (h.code p hp).below hb, fun p hp => (h.lies p hp).mono (Nat.le_refl _) hb.size, h.apart⟩
/-- what turns lies below the row and its code -/
theorem BlkRow.move (h : BlkRow N T w v l) (hs : w.heap.size ≤ w'.heap.size) (hm : ∀ k, N ≤ k → k < w.heap.size → w'.heap[k]? = w.heap[k]?) : BlkRow N T w' v l :=
  ⟨ownsRow_move h.row (fun k hk hl => hm k (ownsRow_lt h.row hk).1 hl), h.wf, fun p hp => (h.code p hp).move (fun d hd hl => hm _ (h.lies p hp d hd).1 hl), fun p hp => (h.lies p hp).mono (Nat.le_refl _) hs, h.apart⟩
theorem BlkRow.push {V w2 : World} {p : BlkP} {gb cap : Nat} (h : BlkRow N T w v l) (hN : N ≤ w.heap.size) (hB : Below w.heap.size w V) (hw : p.blk.Wf) (hc : CodeAt V p.a p.blk.code) (hl : LiesIn w.heap.size V.heap.size p.a)
    (hg : V.grownBy w2 v.ownBlock) (ho : w2.ownsRow N T 5 (.slice (some ⟨gb, 0, none⟩) (l.length + 1) cap) (l.length + 1) (l.flatMap BlkP.cells ++ p.cells)) (hp : v.ownBlock = some gb ∨ V.heap.size ≤ gb) :
    BlkRow N T w2 (.slice (some ⟨gb, 0, none⟩) (l.length + 1) cap) (l ++ [p]) := by
  have hs := hB.size
  have hgs := hg.size
  have hk : BlkRow N T V v l := h.keep hB
  have all : ∀ q ∈ l ++ [p], q.blk.Wf ∧ CodeAt V q.a q.blk.code ∧ LiesIn N V.heap.size q.a ∧ ∀ d, q.a = some d → v.ownBlock ≠ some d.block := by
    intro q hq
    rcases List.mem_append.1 hq with hq | hq
    · exact ⟨hk.wf q hq, hk.code q hq, hk.lies q hq, hk.apart q hq⟩
    · obtain rfl : q = p := by simpa using hq
      refine ⟨hw, hc, hl.mono hN (Nat.le_refl _), fun d hd e => ?_⟩
      have := (ownsRow_lt h.row e).2
      have := (hl d hd).1
      omega
  refine ⟨by rw [List.length_append, flat_snoc]; exact ho, fun q hq => (all q hq).1, fun q hq => (all q hq).2.1.move (fun d hd hl => hg.block _ hl (fun e => (all q hq).2.2.2 d hd e.symm)), fun q hq => (all q hq).2.2.1.mono (Nat.le_refl _) hgs, fun q hq d hd e => ?_⟩
  have e1 : gb = d.block := by injection e
  rcases hp with hp | hp
  · exact (all q hq).2.2.2 d hd (by rw [hp, e1])
  · have := ((all q hq).2.2.1 d hd).2
    omega
theorem BlkRow.blks (h : BlkRow N T w v l) (hf : l.length ≤ 9223372036854775807) : ∃ a c, v = .slice a l.length c ∧ BlksAt w a (l.map (·.blk)) ∧ l.length ≤ c ∧ LiesIn N w.heap.size a ∧ (a = none → c = 0) := by
  have wf : ∀ x ∈ l.map (·.blk), x.Wf := fun x hx => by obtain ⟨p, hp, rfl⟩ := List.mem_map.1 hx; exact h.wf p hp
  rcases ownsRow_form h.row with ⟨rfl, h0⟩ | ⟨g, cap, rfl, h1, h2, h3⟩
  · exact ⟨none, 0, by rw [h0], ⟨by simpa using hf, wf, .inl (by simpa using h0)⟩, by omega, fun d hd => (by cases hd), fun _ => rfl⟩
  · refine ⟨some ⟨g, 0, none⟩, cap, rfl, ⟨by simpa using hf, wf, .inr ⟨g, 0, rfl, fun k x hx => ?_⟩⟩, h3, fun d hd => (by cases hd; exact ⟨h1, h2⟩), fun hh => (by cases hh)⟩
    rw [List.getElem?_map] at hx
    obtain ⟨p, hp, rfl⟩ := Option.map_eq_some_iff.1 hx
    have key : ∀ o u, o < 5 → p.cells[o]? = some u → w.cell? ⟨g, k * 5 + o, none⟩ = some u := fun o u ho hu => own_cell h.row ((flat_get BlkP.cells_len hp ho).trans hu)
    rw [Nat.zero_add]
    exact ⟨p.a, p.c, ⟨key 0 _ (by omega) rfl, key 1 _ (by omega) rfl, key 2 _ (by omega) rfl, key 3 _ (by omega) rfl, key 4 _ (by omega) rfl⟩, h.code p (List.mem_of_getElem? hp)⟩
end
theorem ins_new (w : World) (i : Ins) (T : TypeId) : ∀ (j : Nat) (x : Value), i.cells[j]? = some x → (w.alloc (.cells #[.int .u8 i.op, .int .i64 i.dst, .int .i64 i.x, .int .i64 i.y, .int .i64 i.imm, .string i.sym] T)).cell? ((⟨w.heap.size, 0, none⟩ : Addr).add j) = some x := by
  intro j x hx
  have e : (⟨w.heap.size, 0, none⟩ : Addr).add j = ⟨w.heap.size, j, none⟩ := by
    unfold Addr.add
    by_cases h0 : j = 0 <;> simp [h0]
  rw [e, World.cell?_alloc_new]
  simpa [Ins.cells] using hx
theorem blk_new (w : World) (p : BlkP) (T : TypeId) : ∀ (j : Nat) (x : Value), p.cells[j]? = some x → (w.alloc (.cells #[.slice p.a p.blk.code.length p.c, .int .u8 p.blk.kind, .int .i64 p.blk.x, .int .i64 p.blk.to, .int .i64 p.blk.els] T)).cell? ((⟨w.heap.size, 0, none⟩ : Addr).add j) = some x := by
  intro j x hx
  have e : (⟨w.heap.size, 0, none⟩ : Addr).add j = ⟨w.heap.size, j, none⟩ := by
    unfold Addr.add
    by_cases h0 : j = 0 <;> simp [h0]
  rw [e, World.cell?_alloc_new]
  simpa [BlkP.cells] using hx
theorem Ins.one (i : Ins) : ∀ u ∈ i.cells, u.oneCell' = true := by
  intro u hu
  simp [Ins.cells] at hu
  rcases hu with rfl | rfl | rfl | rfl | rfl | rfl <;> rfl
theorem BlkP.one (p : BlkP) : ∀ u ∈ p.cells, u.oneCell' = true := by
  intro u hu
  simp [BlkP.cells] at hu
  rcases hu with rfl | rfl | rfl | rfl | rfl <;> rfl
end Go.Proofs.YteknhnnlhhgppaaDoor
