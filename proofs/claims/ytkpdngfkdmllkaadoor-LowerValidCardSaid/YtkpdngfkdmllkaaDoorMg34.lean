/-
  Mg34: several texts in one (IrAwake, SizeW, ChkSmall, IrBuild).
-/
import Derived.Test.YtkpdngfkdmllkaaDoorIrRunC
import Derived.Test.YtkpdngfkdmllkaaDoorMg32
import Derived.Test.YtkpdngfkdmllkaaDoorMg5
import Derived.IntWalk
import Derived.Test.YtkpdngfkdmllkaaDoorMg22
import Derived.Test.YtkpdngfkdmllkaaDoorMg1
import Derived.Test.YtkpdngfkdmllkaaDoorMg3
/-
  Contract: awake (package ontimelaw17): the example of the chapter.
-/
namespace Go.Proofs.YtkpdngfkdmllkaaDoor
set_option linter.unusedVariables false
set_option linter.unusedSimpArgs false
open Go.RowKit
set_option maxRecDepth 100000
set_option maxHeartbeats 8000000

def aw1 : Ins := ⟨1, 0, 0, 0, 7, ⟨#[]⟩⟩
def aw2 : Ins := ⟨1, 1, 0, 0, 2, ⟨#[]⟩⟩
def aw3 : Ins := ⟨3, 2, 0, 1, 14, ⟨#[]⟩⟩
def aw4 : Ins := ⟨10, 0, 2, 0, 3, ⟨#[]⟩⟩
def awB : Blk := ⟨[aw1, aw2, aw3, aw4], 3, 0, 0, 0⟩
def awF : Fn := ⟨⟨#[]⟩, 3, [], [awB]⟩
theorem aw_empty : (⟨#[]⟩ : ByteArray).toList = [] := by simp [ByteArray.toList_eq]
theorem aw_ok : fnOk awF [] = true := by
  simp [fnOk, awF, awB, namesOf, addArrs, addObjs, blkOk, insOk, aw1, aw2, aw3, aw4, inReg, betw, endOk, aw_empty]
theorem aw_go : runGo awF [] [] [] [] 9 = (5, 0, ⟨[7, 2, 28], [0, 0, 0, 0], [], false, ⟨#[]⟩, [(3, 28)], 0⟩) := by
  simp [runGo, awF, awB, IrSt.init, go, step, aw1, aw2, aw3, aw4, IrSt.setReg, IrSt.reg, Wd.apply, Wd.err, wrap32]
theorem aw_run : runOf awF [] [] [] [] 9 = ⟨[], [], [(3, 28)], 0, 5, 0⟩ := by
  unfold runOf runFits
  rw [aw_ok, aw_go]
  rfl
theorem out_eql (W : World) (x y : Int) : (binOp .eql 69 (.agg #[.int .i64 x, .int .i32 y]) (.agg #[.int .i64 x, .int .i32 y])).run Tryd.prog W = .ok (.bool true) W := by
  have u3 := Tryd.underlying3
  have a3 := Tryd.isAgg3
  have z3 := Tryd.sizeOf3
  have u9 := Tryd.underlying21
  have a9 := Tryd.isAgg21
  have z9 := Tryd.sizeOf21
  have hS : Tryd.prog.underlying 69 = some (.struct (Tryd.prog.fieldsOf 69)) := by kernel_rfl
  have hp : Tryd.prog.stoodInHeld 69 = false := by kernel_rfl
  rw [run_eql_struct, show (10000 : Nat) = 9999 + 1 from rfl, run_equalIn_agg W 9999 69 _ _ hS hp]
  simp only [Program.fieldsOf, Tryd.underlying69]
  go_simp
theorem aw_wf : ∀ i ∈ awB.code, i.Wf := by
  intro i hi
  simp [awB] at hi
  rcases hi with rfl | rfl | rfl | rfl <;> exact ⟨by decide, by decide, ⟨by decide, by decide⟩, ⟨by decide, by decide⟩, ⟨by decide, by decide⟩, ⟨by decide, by decide⟩, by decide⟩
abbrev awCode : Array Value := #[.int .u8 1, .int .i64 0, .int .i64 0, .int .i64 0, .int .i64 7, .string ⟨#[]⟩, .int .u8 1, .int .i64 1, .int .i64 0, .int .i64 0, .int .i64 2, .string ⟨#[]⟩, .int .u8 3, .int .i64 2, .int .i64 0, .int .i64 1, .int .i64 14, .string ⟨#[]⟩, .int .u8 10, .int .i64 0, .int .i64 2, .int .i64 0, .int .i64 3, .string ⟨#[]⟩]
theorem aw_at {w : World} {b c : Nat} (h1 : w.heap[b]? = some (.cells awCode 48)) (h2 : w.heap[c]? = some (.cells #[.slice (some ⟨b, 0, none⟩) 4 4, .int .u8 3, .int .i64 0, .int .i64 0, .int .i64 0] 46)) : FnAt w awF none (some ⟨c, 0, none⟩) := by
  have k := cell_heap h1
  have m := cell_heap h2
  refine ⟨⟨by decide, (by intro p hp; cases hp), .inl rfl⟩, ⟨by decide, fun x hx => ?_, .inr ⟨c, 0, rfl, fun k' x hx => ?_⟩⟩, ⟨by decide, by decide⟩, by decide⟩
  · simp [awF] at hx
    subst hx
    exact ⟨by decide, by decide, ⟨by decide, by decide⟩, ⟨by decide, by decide⟩, ⟨by decide, by decide⟩⟩
  · match k', hx with
    | 0, hx =>
      cases hx
      refine ⟨some ⟨b, 0, none⟩, 4, ⟨m 0, m 1, m 2, m 3, m 4⟩, ⟨by decide, aw_wf, .inr ⟨b, 0, rfl, fun j i hi => ?_⟩⟩⟩
      match j, hi with
      | 0, hi => cases hi; exact ⟨k 0, k 1, k 2, k 3, k 4, k 5⟩
      | 1, hi => cases hi; exact ⟨k 6, k 7, k 8, k 9, k 10, k 11⟩
      | 2, hi => cases hi; exact ⟨k 12, k 13, k 14, k 15, k 16, k 17⟩
      | 3, hi => cases hi; exact ⟨k 18, k 19, k 20, k 21, k 22, k 23⟩
      | j + 4, hi => simp [awB] at hi
    | k' + 1, hx => simp [awF] at hx
end Go.Proofs.YtkpdngfkdmllkaaDoor

/-
  Contract: Size (package ast), of a tree of any size: the number goes round.
-/
namespace Go.Proofs.YtkpdngfkdmllkaaDoor
set_option linter.unusedVariables false
set_option linter.unusedSimpArgs false
open Go.RowKit
set_option maxRecDepth 100000

theorem wrap64_two (a b : Int) : wrap64 (wrap64 a + wrap64 b) = wrap64 (a + b) := by unfold wrap64; omega
theorem wrap64_of (n : Nat) (h : n ≤ 9223372036854775807) : wrap64 (n : Int) = (n : Int) := IntWalk.wrap64_in _ (by omega)
end Go.Proofs.YtkpdngfkdmllkaaDoor

/-
  Contracts: small and clean (package ontimelaw15).
-/
namespace Go.Proofs.YtkpdngfkdmllkaaDoor
set_option linter.unusedVariables false
set_option linter.unusedSimpArgs false
open Go.RowKit
set_option maxRecDepth 100000
set_option maxHeartbeats 4000000

/-- a small task -/
def smallT (t : Tsk) : Bool := decide (t.vars.length ≤ 24) && (decide (t.arrays.length ≤ 8) && decide (wrap64 (t.body.size : Nat) ≤ 120))
/-- a small program -/
def smallP (p : Prg) : Bool := decide (p.shared.length ≤ 8) && (decide (p.tasks.length ≤ 16) && p.tasks.all smallT)
def num01 (b : Bool) : Int := if b then 1 else 0
/-- a small program without faults -/
def cleanP (p : Prg) : Bool := smallP p && okP p
end Go.Proofs.YtkpdngfkdmllkaaDoor

/-
  Rows of instructions and of blocks that a call builds itself (layer 17). No program is named here.
-/
namespace Go.Proofs.YtkpdngfkdmllkaaDoor
set_option linter.unusedVariables false
set_option linter.unusedSimpArgs false
open Go.RowKit
set_option maxRecDepth 100000

/-! ### flat rows -/
theorem flat_len {α : Type} {f : α → List Value} {n : Nat} (h : ∀ x, (f x).length = n) (l : List α) : (l.flatMap f).length = l.length * n := by
  induction l with
  | nil => simp
  | cons x l ih => rw [List.flatMap_cons, List.length_append, ih, h, List.length_cons, Nat.succ_mul, Nat.add_comm]
theorem flat_get {α : Type} {f : α → List Value} {n : Nat} (h : ∀ x, (f x).length = n) : ∀ {l : List α} {k : Nat} {x : α} {o : Nat}, l[k]? = some x → o < n → (l.flatMap f)[k * n + o]? = (f x)[o]? := by
  intro l
  induction l with
  | nil => intro k x o hk; cases hk
  | cons y l ih =>
    intro k x o hk ho
    rw [List.flatMap_cons]
    match k, hk with
    | 0, hk =>
      cases hk
      rw [Nat.zero_mul, Nat.zero_add, List.getElem?_append_left (by rw [h]; exact ho)]
    | k + 1, hk =>
      have e : (k + 1) * n + o = n + (k * n + o) := by rw [Nat.succ_mul]; omega
      rw [e, List.getElem?_append_right (by rw [h]; omega), h, Nat.add_sub_cancel_left]
      exact ih hk ho
theorem flat_snoc {α : Type} {f : α → List Value} (l : List α) (x : α) : (l ++ [x]).flatMap f = l.flatMap f ++ f x := by simp
theorem take_snoc {α : Type} {l : List α} {k : Nat} {x : α} (h : l[k]? = some x) : l.take (k + 1) = l.take k ++ [x] := by
  obtain ⟨hk, rfl⟩ := List.getElem?_eq_some_iff.1 h
  exact List.take_succ_eq_append_getElem hk

/-! ### instructions -/
def Ins.cells (i : Ins) : List Value := [.int .u8 i.op, .int .i64 i.dst, .int .i64 i.x, .int .i64 i.y, .int .i64 i.imm, .string i.sym]
theorem Ins.cells_len (i : Ins) : i.cells.length = 6 := rfl
def codeCells (l : List Ins) : List Value := l.flatMap Ins.cells
theorem own_cell {w : World} {base : Nat} {e : TypeId} {size gb m n cap : Nat} {xs : List Value} {j : Nat} {u : Value} (h : w.ownsRow base e size (.slice (some ⟨gb, 0, none⟩) m cap) n xs) (hu : xs[j]? = some u) : w.cell? ⟨gb, j, none⟩ = some u := by
  have := h.cells (v := .slice (some ⟨gb, 0, none⟩) m cap) rfl j u hu
  have e : (⟨gb, 0, none⟩ : Addr).add j = ⟨gb, j, none⟩ := by
    unfold Addr.add
    by_cases h0 : j = 0 <;> simp [h0]
  rwa [e] at this
/-- an address lies from a block on, below another one -/
def LiesIn (N M : Nat) (a : Option Addr) : Prop := ∀ d, a = some d → N ≤ d.block ∧ d.block < M
theorem LiesIn.mono {N N' M M' : Nat} {a : Option Addr} (h : LiesIn N M a) (h1 : N' ≤ N) (h2 : M ≤ M') : LiesIn N' M' a := fun d hd => ⟨Nat.le_trans h1 (h d hd).1, Nat.lt_of_lt_of_le (h d hd).2 h2⟩
/-- the address of a slice -/
theorem code_own {w : World} {N : Nat} {T : TypeId} {v : Value} {l : List Ins} (h : w.ownsRow N T 6 v l.length (codeCells l)) (hw : ∀ i ∈ l, i.Wf) (hf : l.length ≤ 9223372036854775807) :
    ∃ a c, v = .slice a l.length c ∧ CodeAt w a l ∧ LiesIn N w.heap.size a ∧ l.length ≤ c ∧ (∀ d, a = some d → v.ownBlock = some d.block) := by
  rcases ownsRow_form h with ⟨rfl, h0⟩ | ⟨g, cap, rfl, h1, h2, h3⟩
  · exact ⟨none, 0, by rw [h0], ⟨hf, hw, .inl h0⟩, fun d hd => (by cases hd), by omega, fun d hd => (by cases hd)⟩
  · refine ⟨some ⟨g, 0, none⟩, cap, rfl, ⟨hf, hw, .inr ⟨g, 0, rfl, fun k i hk => ?_⟩⟩, fun d hd => (by cases hd; exact ⟨h1, h2⟩), h3, fun d hd => (by cases hd; rfl)⟩
    have key : ∀ o u, o < 6 → i.cells[o]? = some u → w.cell? ⟨g, k * 6 + o, none⟩ = some u := fun o u ho hu => own_cell h ((flat_get Ins.cells_len hk ho).trans hu)
    rw [Nat.zero_add]
    exact ⟨key 0 _ (by omega) rfl, key 1 _ (by omega) rfl, key 2 _ (by omega) rfl, key 3 _ (by omega) rfl, key 4 _ (by omega) rfl, key 5 _ (by omega) rfl⟩
theorem CodeAt.move {w w' : World} {a : Option Addr} {l : List Ins} (h : CodeAt w a l) (hm : ∀ d, a = some d → d.block < w.heap.size → w'.heap[d.block]? = w.heap[d.block]?) : CodeAt w' a l := by
  refine ⟨h.fits, h.wf, ?_⟩
  rcases h.at_ with h0 | ⟨b, off, ha, hk⟩
  · exact .inl h0
  · refine .inr ⟨b, off, ha, fun k i hi => ?_⟩
    have hI := hk k i hi
    have hb : w'.heap[b]? = w.heap[b]? := hm _ ha (World.block_lt_of_cell? w ⟨b, off + k * 6, none⟩ hI.c0)
    have go : ∀ {o : Nat} {v : Value}, w.cell? ⟨b, o, none⟩ = some v → w'.cell? ⟨b, o, none⟩ = some v := fun hv => (World.cell?_of_block (a := ⟨b, _, none⟩) hb).trans hv
    exact ⟨go hI.c0, go hI.c1, go hI.c2, go hI.c3, go hI.c4, go hI.c5⟩

/-! ### blocks -/
/-- a block, and where its code lies -/
structure BlkP where
  blk : Blk
  a : Option Addr
  c : Nat
def BlkP.cells (p : BlkP) : List Value := [.slice p.a p.blk.code.length p.c, .int .u8 p.blk.kind, .int .i64 p.blk.x, .int .i64 p.blk.to, .int .i64 p.blk.els]
theorem BlkP.cells_len (p : BlkP) : p.cells.length = 5 := rfl
/-- a row of blocks of the call's own: the row from block N on, their code from there on, too, and elsewhere -/
structure BlkRow (N : Nat) (T : TypeId) (w : World) (v : Value) (l : List BlkP) : Prop where
  row : w.ownsRow N T 5 v l.length (l.flatMap BlkP.cells)
  wf : ∀ p ∈ l, p.blk.Wf
  code : ∀ p ∈ l, CodeAt w p.a p.blk.code
  lies : ∀ p ∈ l, LiesIn N w.heap.size p.a
  apart : ∀ p ∈ l, ∀ d, p.a = some d → v.ownBlock ≠ some d.block
theorem BlkRow.nil {N : Nat} {T : TypeId} {w : World} : BlkRow N T w (.slice none 0 0) [] :=
  ⟨⟨rfl, .inl ⟨rfl, rfl⟩⟩, fun p hp => (by cases hp), fun p hp => (by cases hp), fun p hp => (by cases hp), fun p hp => (by cases hp)⟩
section
variable {N : Nat} {T : TypeId} {w w' : World} {v : Value} {l : List BlkP}
theorem BlkRow.keep (h : BlkRow N T w v l) (hb : Below w.heap.size w w') : BlkRow N T w' v l :=
  ⟨ownsRow_below h.row hb, h.wf, fun p hp => (h.code p hp).below hb, fun p hp => (h.lies p hp).mono (Nat.le_refl _) hb.size, h.apart⟩
/-- what turns lies below the row and its code -/
theorem BlkRow.move (h : BlkRow N T w v l) (hs : w.heap.size ≤ w'.heap.size) (hm : ∀ k, N ≤ k → k < w.heap.size → w'.heap[k]? = w.heap[k]?) : BlkRow N T w' v l :=
  ⟨ownsRow_move h.row (fun k hk hl => hm k (ownsRow_lt h.row hk).1 hl), h.wf, fun p hp => (h.code p hp).move (fun d hd hl => hm _ (h.lies p hp d hd).1 hl), fun p hp => (h.lies p hp).mono (Nat.le_refl _) hs, h.apart⟩
theorem BlkRow.push {V w2 : World} {p : BlkP} {gb cap : Nat} (h : BlkRow N T w v l) (hN : N ≤ w.heap.size) (hB : Below w.heap.size w V) (hw : p.blk.Wf) (hc : CodeAt V p.a p.blk.code) (hl : LiesIn w.heap.size V.heap.size p.a)
    (hg : V.grownBy w2 v.ownBlock) (ho : w2.ownsRow N T 5 (.slice (some ⟨gb, 0, none⟩) (l.length + 1) cap) (l.length + 1) (l.flatMap BlkP.cells ++ p.cells)) (hp : v.ownBlock = some gb ∨ V.heap.size ≤ gb) :
    BlkRow N T w2 (.slice (some ⟨gb, 0, none⟩) (l.length + 1) cap) (l ++ [p]) := by
  have hs := hB.size
  have hgs := hg.size
  have hk : BlkRow N T V v l := h.keep hB
  have all : ∀ q ∈ l ++ [p], q.blk.Wf ∧ CodeAt V q.a q.blk.code ∧ LiesIn N V.heap.size q.a ∧ ∀ d, q.a = some d → v.ownBlock ≠ some d.block := by
    intro q hq
    rcases List.mem_append.1 hq with hq | hq
    · exact ⟨hk.wf q hq, hk.code q hq, hk.lies q hq, hk.apart q hq⟩
    · obtain rfl : q = p := by simpa using hq
      refine ⟨hw, hc, hl.mono hN (Nat.le_refl _), fun d hd e => ?_⟩
      have := (ownsRow_lt h.row e).2
      have := (hl d hd).1
      omega
  refine ⟨by rw [List.length_append, flat_snoc]; exact ho, fun q hq => (all q hq).1, fun q hq => (all q hq).2.1.move (fun d hd hl => hg.block _ hl (fun e => (all q hq).2.2.2 d hd e.symm)), fun q hq => (all q hq).2.2.1.mono (Nat.le_refl _) hgs, fun q hq d hd e => ?_⟩
  have e1 : gb = d.block := by injection e
  rcases hp with hp | hp
  · exact (all q hq).2.2.2 d hd (by rw [hp, e1])
  · have := ((all q hq).2.2.1 d hd).2
    omega
theorem BlkRow.blks (h : BlkRow N T w v l) (hf : l.length ≤ 9223372036854775807) : ∃ a c, v = .slice a l.length c ∧ BlksAt w a (l.map (·.blk)) ∧ l.length ≤ c ∧ LiesIn N w.heap.size a ∧ (a = none → c = 0) := by
  have wf : ∀ x ∈ l.map (·.blk), x.Wf := fun x hx => by obtain ⟨p, hp, rfl⟩ := List.mem_map.1 hx; exact h.wf p hp
  rcases ownsRow_form h.row with ⟨rfl, h0⟩ | ⟨g, cap, rfl, h1, h2, h3⟩
  · exact ⟨none, 0, by rw [h0], ⟨by simpa using hf, wf, .inl (by simpa using h0)⟩, by omega, fun d hd => (by cases hd), fun _ => rfl⟩
  · refine ⟨some ⟨g, 0, none⟩, cap, rfl, ⟨by simpa using hf, wf, .inr ⟨g, 0, rfl, fun k x hx => ?_⟩⟩, h3, fun d hd => (by cases hd; exact ⟨h1, h2⟩), fun hh => (by cases hh)⟩
    rw [List.getElem?_map] at hx
    obtain ⟨p, hp, rfl⟩ := Option.map_eq_some_iff.1 hx
    have key : ∀ o u, o < 5 → p.cells[o]? = some u → w.cell? ⟨g, k * 5 + o, none⟩ = some u := fun o u ho hu => own_cell h.row ((flat_get BlkP.cells_len hp ho).trans hu)
    rw [Nat.zero_add]
    exact ⟨p.a, p.c, ⟨key 0 _ (by omega) rfl, key 1 _ (by omega) rfl, key 2 _ (by omega) rfl, key 3 _ (by omega) rfl, key 4 _ (by omega) rfl⟩, h.code p (List.mem_of_getElem? hp)⟩
end
theorem ins_new (w : World) (i : Ins) (T : TypeId) : ∀ (j : Nat) (x : Value), i.cells[j]? = some x → (w.alloc (.cells #[.int .u8 i.op, .int .i64 i.dst, .int .i64 i.x, .int .i64 i.y, .int .i64 i.imm, .string i.sym] T)).cell? ((⟨w.heap.size, 0, none⟩ : Addr).add j) = some x := by
  intro j x hx
  have e : (⟨w.heap.size, 0, none⟩ : Addr).add j = ⟨w.heap.size, j, none⟩ := by
    unfold Addr.add
    by_cases h0 : j = 0 <;> simp [h0]
  rw [e, World.cell?_alloc_new]
  simpa [Ins.cells] using hx
theorem blk_new (w : World) (p : BlkP) (T : TypeId) : ∀ (j : Nat) (x : Value), p.cells[j]? = some x → (w.alloc (.cells #[.slice p.a p.blk.code.length p.c, .int .u8 p.blk.kind, .int .i64 p.blk.x, .int .i64 p.blk.to, .int .i64 p.blk.els] T)).cell? ((⟨w.heap.size, 0, none⟩ : Addr).add j) = some x := by
  intro j x hx
  have e : (⟨w.heap.size, 0, none⟩ : Addr).add j = ⟨w.heap.size, j, none⟩ := by
    unfold Addr.add
    by_cases h0 : j = 0 <;> simp [h0]
  rw [e, World.cell?_alloc_new]
  simpa [BlkP.cells] using hx
theorem Ins.one (i : Ins) : ∀ u ∈ i.cells, u.oneCell' = true := by
  intro u hu
  simp [Ins.cells] at hu
  rcases hu with rfl | rfl | rfl | rfl | rfl | rfl <;> rfl
theorem BlkP.one (p : BlkP) : ∀ u ∈ p.cells, u.oneCell' = true := by
  intro u hu
  simp [BlkP.cells] at hu
  rcases hu with rfl | rfl | rfl | rfl | rfl <;> rfl
end Go.Proofs.YtkpdngfkdmllkaaDoor
