/-
  Mg16: several texts in one (Mem, IrBuild).
-/
import Derived.WalkKit
import Derived.Below
import Derived.Laws.AppendOwn
import Derived.Lib.Hide
import Derived.Deep.QuietTactic
import Derived.Test.YteknhnnlhhgppaaDoorMg1
import Derived.Test.YteknhnnlhhgppaaDoorMg3
/-
  Small facts of memory. No program is named here.
-/
namespace Go.Proofs.YteknhnnlhhgppaaDoor
set_option linter.unusedVariables false
set_option linter.unusedSimpArgs false
open Go.RowKit

theorem mem_cell {w : World} {b : Nat} {arr : Array Value} {t : TypeId} (h : w.heap[b]? = some (.cells arr t)) (i : Nat) : w.cell? ⟨b, i, none⟩ = arr[i]? := by
  simp [World.cell?, h]
theorem mem_set {w : World} {b i : Nat} {arr : Array Value} {t : TypeId} {v : Value} (h : w.heap[b]? = some (.cells arr t)) : (w.setCell ⟨b, i, none⟩ v).heap[b]? = some (.cells (arr.setIfInBounds i v) t) := by
  simp [World.setCell, Array.getElem?_modify, h]
theorem mem_free {w : World} {b : Nat} {arr : Array Value} {t : TypeId} (h : w.heap[b]? = some (.cells arr t)) (i : Nat) : w.frozen? ⟨b, i, none⟩ = false := by
  simp [World.frozen?, h]
theorem mem_lt {w : World} {b : Nat} {o : Obj} (h : w.heap[b]? = some o) : b < w.heap.size := (Array.getElem?_eq_some_iff.1 h).1
theorem mem_keep {w w' : World} {b : Nat} {o : Obj} (h : w.heap[b]? = some o) (hB : Below w.heap.size w w') : w'.heap[b]? = some o := (hB.block b (mem_lt h)).trans h
theorem mem_then {W w1 w2 : World} (h : Below W.heap.size W w1) (hB : Below w1.heap.size w1 w2) : Below W.heap.size W w2 := h.trans (hB.mono h.size)
theorem mem_new (w : World) (o : Obj) : (w.alloc o).heap[w.heap.size]? = some o := by
  show (w.heap.push o)[w.heap.size]? = some o
  simp
theorem mem_new1 (w : World) (a b : Obj) : ((w.alloc a).alloc b).heap[w.heap.size + 1]? = some b := by
  have := mem_new (w.alloc a) b
  simpa using this
theorem mem_old1 (w : World) (a b : Obj) : ((w.alloc a).alloc b).heap[w.heap.size]? = some a := by
  rw [Below.heap_alloc _ _ _ (by simp)]
  exact mem_new w a
theorem mem_alloc (w : World) (o : Obj) : Below w.heap.size w (w.alloc o) := (Below.refl _ _).alloc (Nat.le_refl _) o
theorem mem_drawn {W wr V : World} {n : Nat} (h : Below W.heap.size W wr) (hV : World.drewN wr n = V) : Below W.heap.size W V := by
  rw [← hV]
  exact ⟨h.os, h.tape, h.output, h.size, h.block⟩
theorem mem_three (w : World) (a b c : Obj) : (((w.alloc a).alloc b).alloc c).heap[w.heap.size]? = some a ∧ (((w.alloc a).alloc b).alloc c).heap[w.heap.size + 1]? = some b ∧ (((w.alloc a).alloc b).alloc c).heap[w.heap.size + 1 + 1]? = some c ∧ Below w.heap.size w (((w.alloc a).alloc b).alloc c) := by
  refine ⟨?_, ?_, ?_, (((Below.refl _ _).alloc (Nat.le_refl _) _).alloc (by simp) _).alloc (by simp; omega) _⟩
  · rw [Below.heap_alloc _ _ _ (by simp; omega)]; exact mem_old1 w a b
  · rw [Below.heap_alloc _ _ _ (by simp)]; exact mem_new1 w a b
  · have := mem_new1 (w.alloc a) b c
    simpa using this
theorem own_lt {w : World} {base : Nat} {e : TypeId} {size : Nat} {v : Value} {n : Nat} {xs : List Value} (h : w.ownsRow base e size v n xs) {k : Nat} (hk : v.ownBlock = some k) : base ≤ k ∧ k < w.heap.size := by
  rcases h.2 with ⟨rfl, _⟩ | ⟨g, cap, cur, rfl, hg, hc, r⟩
  · cases hk
  · cases hk; exact ⟨hg, (Array.getElem?_eq_some_iff.1 hc).1⟩
theorem own_val {w : World} {base : Nat} {e : TypeId} {size : Nat} {v : Value} {n : Nat} {xs : List Value} (h : w.ownsRow base e size v n xs) : ∃ a c, v = .slice a n c := by
  rcases h.2 with ⟨rfl, rfl⟩ | ⟨g, cap, cur, rfl, _⟩
  · exact ⟨_, _, rfl⟩
  · exact ⟨_, _, rfl⟩
theorem own_at {w : World} {base : Nat} {e : TypeId} {size : Nat} {a : Option Addr} {n c : Nat} {xs : List Value} (h : w.ownsRow base e size (.slice a n c) n xs) (hn : 0 < n) : ∃ b, a = some ⟨b, 0, none⟩ ∧ base ≤ b ∧ b < w.heap.size := by
  rcases h.2 with ⟨_, h0⟩ | ⟨g, cap, cur, hv, hg, hc, _⟩
  · omega
  · injection hv with hv; exact ⟨g, hv, hg, mem_lt hc⟩
theorem own_get {w : World} {base : Nat} {e : TypeId} {size gb m n cap : Nat} {xs : List Value} {j : Nat} {u : Value} (h : w.ownsRow base e size (.slice (some ⟨gb, 0, none⟩) m cap) n xs) (hu : xs[j]? = some u) : w.cell? ⟨gb, j, none⟩ = some u := by
  have := h.cells rfl j u hu
  have e : (⟨gb, 0, none⟩ : Addr).add j = ⟨gb, j, none⟩ := by
    unfold Addr.add
    by_cases h0 : j = 0 <;> simp [h0]
  rwa [e] at this
theorem own_size {w : World} {base : Nat} {e : TypeId} {size : Nat} {v : Value} {n : Nat} {xs : List Value} (h : w.ownsRow base e size v n xs) : n ≤ 9223372036854775807 := by
  rcases h.2 with ⟨_, rfl⟩ | ⟨g, cap, cur, rfl, _, _, h1, h2, _⟩
  · omega
  · have : cap ≤ 9223372036854775807 := h2
    omega
theorem own_keep {w w' : World} {base : Nat} {e : TypeId} {size : Nat} {v : Value} {n : Nat} {xs : List Value} (h : w.ownsRow base e size v n xs) (hb : ∀ k, v.ownBlock = some k → k < w.heap.size → w'.heap[k]? = w.heap[k]?) : w'.ownsRow base e size v n xs := by
  obtain ⟨h1, h2⟩ := h
  refine ⟨h1, ?_⟩
  rcases h2 with h2 | ⟨g, cap, cur, rfl, hg, hc, r⟩
  · exact .inl h2
  · exact .inr ⟨g, cap, cur, rfl, hg, (hb g rfl (mem_lt hc)).trans hc, r⟩
theorem own_below {w w' : World} {base : Nat} {e : TypeId} {size : Nat} {v : Value} {n : Nat} {xs : List Value} (h : w.ownsRow base e size v n xs) (hb : Below w.heap.size w w') : w'.ownsRow base e size v n xs :=
  own_keep h (fun k _ hk => hb.block k hk)
/-- rows of another type lie elsewhere -/
theorem own_other {w : World} {base : Nat} {e t : TypeId} {size m b : Nat} {v : Value} {xs : List Value} {arr : Array Value} (h : w.ownsRow base e size v m xs) (hb : w.heap[b]? = some (.cells arr t)) (hT : t ≠ e) : v.ownBlock ≠ some b := by
  intro e1
  rcases h.2 with ⟨rfl, _⟩ | ⟨g, cap, cur, rfl, _, hc, _⟩
  · cases e1
  · have e1 : g = b := by injection e1
    subst e1
    rw [hb] at hc
    injection hc with hc
    injection hc with _ e2
    exact hT e2
theorem own_down {w : World} {base base' : Nat} {e : TypeId} {size : Nat} {v : Value} {n : Nat} {xs : List Value} (h : w.ownsRow base e size v n xs) (hb : base' ≤ base) : w.ownsRow base' e size v n xs := by
  obtain ⟨h1, h2⟩ := h
  refine ⟨h1, ?_⟩
  rcases h2 with h2 | ⟨g, cap, cur, rfl, hg, r⟩
  · exact .inl h2
  · exact .inr ⟨g, cap, cur, rfl, Nat.le_trans hb hg, r⟩
end Go.Proofs.YteknhnnlhhgppaaDoor

/-
  Rows of instructions and of blocks that a call builds itself (layer 17). No program is named here.
-/
namespace Go.Proofs.YteknhnnlhhgppaaDoor
set_option linter.unusedVariables false
set_option linter.unusedSimpArgs false
open Go.RowKit
set_option maxRecDepth 100000

/-! ### flat rows -/
theorem flat_len {α : Type} {f : α → List Value} {n : Nat} (h : ∀ x, (f x).length = n) (l : List α) : (l.flatMap f).length = l.length * n := by
  induction l with
  | nil => simp
  | cons x l ih => rw [List.flatMap_cons, List.length_append, ih, h, List.length_cons, Nat.succ_mul, Nat.add_comm]
theorem flat_get {α : Type} {f : α → List Value} {n : Nat} (h : ∀ x, (f x).length = n) : ∀ {l : List α} {k : Nat} {x : α} {o : Nat}, l[k]? = some x → o < n → (l.flatMap f)[k * n + o]? = (f x)[o]? := by
  intro l
  induction l with
  | nil => intro k x o hk; cases hk
  | cons y l ih =>
    intro k x o hk ho
    rw [List.flatMap_cons]
    match k, hk with
    | 0, hk =>
      cases hk
      rw [Nat.zero_mul, Nat.zero_add, List.getElem?_append_left (by rw [h]; exact ho)]
    | k + 1, hk =>
      have e : (k + 1) * n + o = n + (k * n + o) := by rw [Nat.succ_mul]; omega
      rw [e, List.getElem?_append_right (by rw [h]; omega), h, Nat.add_sub_cancel_left]
      exact ih hk ho
theorem flat_snoc {α : Type} {f : α → List Value} (l : List α) (x : α) : (l ++ [x]).flatMap f = l.flatMap f ++ f x := by simp
theorem take_snoc {α : Type} {l : List α} {k : Nat} {x : α} (h : l[k]? = some x) : l.take (k + 1) = l.take k ++ [x] := by
  obtain ⟨hk, rfl⟩ := List.getElem?_eq_some_iff.1 h
  exact List.take_succ_eq_append_getElem hk

/-! ### instructions -/
def Ins.cells (i : Ins) : List Value := [.int .u8 i.op, .int .i64 i.dst, .int .i64 i.x, .int .i64 i.y, .int .i64 i.imm, .string i.sym]
theorem Ins.cells_len (i : Ins) : i.cells.length = 6 := rfl
def codeCells (l : List Ins) : List Value := l.flatMap Ins.cells
theorem own_cell {w : World} {base : Nat} {e : TypeId} {size gb m n cap : Nat} {xs : List Value} {j : Nat} {u : Value} (h : w.ownsRow base e size (.slice (some ⟨gb, 0, none⟩) m cap) n xs) (hu : xs[j]? = some u) : w.cell? ⟨gb, j, none⟩ = some u := by
  have := h.cells (v := .slice (some ⟨gb, 0, none⟩) m cap) rfl j u hu
  have e : (⟨gb, 0, none⟩ : Addr).add j = ⟨gb, j, none⟩ := by
    unfold Addr.add
    by_cases h0 : j = 0 <;> simp [h0]
  rwa [e] at this
/-- an address lies from a block on, below another one -/
def LiesIn (N M : Nat) (a : Option Addr) : Prop := ∀ d, a = some d → N ≤ d.block ∧ d.block < M
theorem LiesIn.mono {N N' M M' : Nat} {a : Option Addr} (h : LiesIn N M a) (h1 : N' ≤ N) (h2 : M ≤ M') : LiesIn N' M' a := fun d hd => ⟨Nat.le_trans h1 (h d hd).1, Nat.lt_of_lt_of_le (h d hd).2 h2⟩
/-- the address of a slice -/
theorem code_own {w : World} {N : Nat} {T : TypeId} {v : Value} {l : List Ins} (h : w.ownsRow N T 6 v l.length (codeCells l)) (hw : ∀ i ∈ l, i.Wf) (hf : l.length ≤ 9223372036854775807) :
    ∃ a c, v = .slice a l.length c ∧ CodeAt w a l ∧ LiesIn N w.heap.size a ∧ l.length ≤ c ∧ (∀ d, a = some d → v.ownBlock = some d.block) := by
  rcases ownsRow_form h with ⟨rfl, h0⟩ | ⟨g, cap, rfl, h1, h2, h3⟩
  · exact ⟨none, 0, by rw [h0], ⟨hf, hw, .inl h0⟩, fun d hd => (by cases hd), by omega, fun d hd => (by cases hd)⟩
  · refine ⟨some ⟨g, 0, none⟩, cap, rfl, ⟨hf, hw, .inr ⟨g, 0, rfl, fun k i hk => ?_⟩⟩, fun d hd => (by cases hd; exact ⟨h1, h2⟩), h3, fun d hd => (by cases hd; rfl)⟩
    have key : ∀ o u, o < 6 → i.cells[o]? = some u → w.cell? ⟨g, k * 6 + o, none⟩ = some u := fun o u ho hu => own_cell h ((flat_get Ins.cells_len hk ho).trans hu)
    rw [Nat.zero_add]
    exact ⟨key 0 _ (by omega) rfl, key 1 _ (by omega) rfl, key 2 _ (by omega) rfl, key 3 _ (by omega) rfl, key 4 _ (by omega) rfl, key 5 _ (by omega) rfl⟩
theorem CodeAt.move {w w' : World} {a : Option Addr} {l : List Ins} (h : CodeAt w a l) (hm : ∀ d, a = some d → d.block < w.heap.size → w'.heap[d.block]? = w.heap[d.block]?) : CodeAt w' a l := by
  refine ⟨h.fits, h.wf, ?_⟩
  rcases h.at_ with h0 | ⟨b, off, ha, hk⟩
  · exact .inl h0
  · refine .inr ⟨b, off, ha, fun k i hi => ?_⟩
    have hI := hk k i hi
    have hb : w'.heap[b]? = w.heap[b]? := hm _ ha (World.block_lt_of_cell? w ⟨b, off + k * 6, none⟩ hI.c0)
    have go : ∀ {o : Nat} {v : Value}, w.cell? ⟨b, o, none⟩ = some v → w'.cell? ⟨b, o, none⟩ = some v := fun hv => (World.cell?_of_block (a := ⟨b, _, none⟩) hb).trans hv
    exact ⟨go hI.c0, go hI.c1, go hI.c2, go hI.c3, go hI.c4, go hI.c5⟩

/-! ### blocks -/
/-- a block, and where its code lies -/
structure BlkP where
  blk : Blk
  a : Option Addr
  c : Nat
def BlkP.cells (p : BlkP) : List Value := [.slice p.a p.blk.code.length p.c, .int .u8 p.blk.kind, .int .i64 p.blk.x, .int .i64 p.blk.to, .int .i64 p.blk.els]
theorem BlkP.cells_len (p : BlkP) : p.cells.length = 5 := rfl
/-- a row of blocks of the call's own: the row from block N on, their code from there on, too, and elsewhere -/
structure BlkRow (N : Nat) (T : TypeId) (w : World) (v : Value) (l : List BlkP) : Prop where
  row : w.ownsRow N T 5 v l.length (l.flatMap BlkP.cells)
  wf : ∀ p ∈ l, p.blk.Wf
  code : ∀ p ∈ l, CodeAt w p.a p.blk.code
  lies : ∀ p ∈ l, LiesIn N w.heap.size p.a
  apart : ∀ p ∈ l, ∀ d, p.a = some d → v.ownBlock ≠ some d.block
theorem BlkRow.nil {N : Nat} {T : TypeId} {w : World} : BlkRow N T w (.slice none 0 0) [] :=
  ⟨⟨rfl, .inl ⟨rfl, rfl⟩⟩, fun p hp => (by cases hp), fun p hp => (by cases hp), fun p hp => (by cases hp), fun p hp => (by cases hp)⟩
section
variable {N : Nat} {T : TypeId} {w w' : World} {v : Value} {l : List BlkP}
theorem BlkRow.keep (h : BlkRow N T w v l) (hb : Below w.heap.size w w') : BlkRow N T w' v l :=
  ⟨ownsRow_below h.row hb, h.wf, fun p hp => (h.code p hp).below hb, fun p hp => (h.lies p hp).mono (Nat.le_refl _) hb.size, h.apart⟩
/-- what turns lies below the row and its code -/
theorem BlkRow.move (h : BlkRow N T w v l) (hs : w.heap.size ≤ w'.heap.size) (hm : ∀ k, N ≤ k → k < w.heap.size → w'.heap[k]? = w.heap[k]?) : BlkRow N T w' v l :=
  ⟨ownsRow_move h.row (fun k hk hl => hm k (ownsRow_lt h.row hk).1 hl), h.wf, fun p hp => (h.code p hp).move (fun d hd hl => hm _ (h.lies p hp d hd).1 hl), fun p hp => (h.lies p hp).mono (Nat.le_refl _) hs, h.apart⟩
theorem BlkRow.push {V w2 : World} {p : BlkP} {gb cap : Nat} (h : BlkRow N T w v l) (hN : N ≤ w.heap.size) (hB : Below w.heap.size w V) (hw : p.blk.Wf) (hc : CodeAt V p.a p.blk.code) (hl : LiesIn w.heap.size V.heap.size p.a)
    (hg : V.grownBy w2 v.ownBlock) (ho : w2.ownsRow N T 5 (.slice (some ⟨gb, 0, none⟩) (l.length + 1) cap) (l.length + 1) (l.flatMap BlkP.cells ++ p.cells)) (hp : v.ownBlock = some gb ∨ V.heap.size ≤ gb) :
    BlkRow N T w2 (.slice (some ⟨gb, 0, none⟩) (l.length + 1) cap) (l ++ [p]) := by
  have hs := hB.size
  have hgs := hg.size
  have hk : BlkRow N T V v l := h.keep hB
  have all : ∀ q ∈ l ++ [p], q.blk.Wf ∧ CodeAt V q.a q.blk.code ∧ LiesIn N V.heap.size q.a ∧ ∀ d, q.a = some d → v.ownBlock ≠ some d.block := by
    intro q hq
    rcases List.mem_append.1 hq with hq | hq
    · exact ⟨hk.wf q hq, hk.code q hq, hk.lies q hq, hk.apart q hq⟩
    · obtain rfl : q = p := by simpa using hq
      refine ⟨hw, hc, hl.mono hN (Nat.le_refl _), fun d hd e => ?_⟩
      have := (ownsRow_lt h.row e).2
      have := (hl d hd).1
      omega
  refine ⟨by rw [List.length_append, flat_snoc]; exact ho, fun q hq => (all q hq).1, fun q hq => (all q hq).2.1.move (fun d hd hl => hg.block _ hl (fun e => (all q hq).2.2.2 d hd e.symm)), fun q hq => (all q hq).2.2.1.mono (Nat.le_refl _) hgs, fun q hq d hd e => ?_⟩
  have e1 : gb = d.block := by injection e
  rcases hp with hp | hp
  · exact (all q hq).2.2.2 d hd (by rw [hp, e1])
  · have := ((all q hq).2.2.1 d hd).2
    omega
theorem BlkRow.blks (h : BlkRow N T w v l) (hf : l.length ≤ 9223372036854775807) : ∃ a c, v = .slice a l.length c ∧ BlksAt w a (l.map (·.blk)) ∧ l.length ≤ c ∧ LiesIn N w.heap.size a ∧ (a = none → c = 0) := by
  have wf : ∀ x ∈ l.map (·.blk), x.Wf := fun x hx => by obtain ⟨p, hp, rfl⟩ := List.mem_map.1 hx; exact h.wf p hp
  rcases ownsRow_form h.row with ⟨rfl, h0⟩ | ⟨g, cap, rfl, h1, h2, h3⟩
  · exact ⟨none, 0, by rw [h0], ⟨by simpa using hf, wf, .inl (by simpa using h0)⟩, by omega, fun d hd => (by cases hd), fun _ => rfl⟩
  · refine ⟨some ⟨g, 0, none⟩, cap, rfl, ⟨by simpa using hf, wf, .inr ⟨g, 0, rfl, fun k x hx => ?_⟩⟩, h3, fun d hd => (by cases hd; exact ⟨h1, h2⟩), fun hh => (by cases hh)⟩
    rw [List.getElem?_map] at hx
    obtain ⟨p, hp, rfl⟩ := Option.map_eq_some_iff.1 hx
    have key : ∀ o u, o < 5 → p.cells[o]? = some u → w.cell? ⟨g, k * 5 + o, none⟩ = some u := fun o u ho hu => own_cell h.row ((flat_get BlkP.cells_len hp ho).trans hu)
    rw [Nat.zero_add]
    exact ⟨p.a, p.c, ⟨key 0 _ (by omega) rfl, key 1 _ (by omega) rfl, key 2 _ (by omega) rfl, key 3 _ (by omega) rfl, key 4 _ (by omega) rfl⟩, h.code p (List.mem_of_getElem? hp)⟩
end
theorem ins_new (w : World) (i : Ins) (T : TypeId) : ∀ (j : Nat) (x : Value), i.cells[j]? = some x → (w.alloc (.cells #[.int .u8 i.op, .int .i64 i.dst, .int .i64 i.x, .int .i64 i.y, .int .i64 i.imm, .string i.sym] T)).cell? ((⟨w.heap.size, 0, none⟩ : Addr).add j) = some x := by
  intro j x hx
  have e : (⟨w.heap.size, 0, none⟩ : Addr).add j = ⟨w.heap.size, j, none⟩ := by
    unfold Addr.add
    by_cases h0 : j = 0 <;> simp [h0]
  rw [e, World.cell?_alloc_new]
  simpa [Ins.cells] using hx
theorem blk_new (w : World) (p : BlkP) (T : TypeId) : ∀ (j : Nat) (x : Value), p.cells[j]? = some x → (w.alloc (.cells #[.slice p.a p.blk.code.length p.c, .int .u8 p.blk.kind, .int .i64 p.blk.x, .int .i64 p.blk.to, .int .i64 p.blk.els] T)).cell? ((⟨w.heap.size, 0, none⟩ : Addr).add j) = some x := by
  intro j x hx
  have e : (⟨w.heap.size, 0, none⟩ : Addr).add j = ⟨w.heap.size, j, none⟩ := by
    unfold Addr.add
    by_cases h0 : j = 0 <;> simp [h0]
  rw [e, World.cell?_alloc_new]
  simpa [BlkP.cells] using hx
theorem Ins.one (i : Ins) : ∀ u ∈ i.cells, u.oneCell' = true := by
  intro u hu
  simp [Ins.cells] at hu
  rcases hu with rfl | rfl | rfl | rfl | rfl | rfl <;> rfl
theorem BlkP.one (p : BlkP) : ∀ u ∈ p.cells, u.oneCell' = true := by
  intro u hu
  simp [BlkP.cells] at hu
  rcases hu with rfl | rfl | rfl | rfl | rfl <;> rfl
end Go.Proofs.YteknhnnlhhgppaaDoor
