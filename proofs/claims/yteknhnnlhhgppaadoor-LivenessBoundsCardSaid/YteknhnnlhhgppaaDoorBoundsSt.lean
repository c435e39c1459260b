/-
  What the loop of LivenessBounds keeps: a copy of a function, in a box; some instructions of it are struck.
-/
import Derived.Test.YteknhnnlhhgppaaDoorBoundsPlain
import Derived.Test.YteknhnnlhhgppaaDoorCopied19
namespace Go.Proofs.YteknhnnlhhgppaaDoor
set_option linter.unusedVariables false
set_option linter.unusedSimpArgs false
open Go.RowKit
set_option maxRecDepth 100000

theorem set_set {α : Type} {l : List α} {k : Nat} {a b : α} : (l.set k a).set k b = l.set k b := by
  apply List.ext_getElem?
  intro i
  rw [List.getElem?_set, List.getElem?_set, List.getElem?_set]
  simp only [List.length_set]
  split
  · rfl
  · rename_i hne
    simp [hne]
section
variable {N : Nat} {T E : TypeId} {w : World} {v : Value} {l : List BlkP}
/-- a whole instruction -/
theorem BlkOwn.setWhole {k m cb : Nat} {p : BlkP} {i j : Ins} (h : BlkOwn N T E w v l) (hk : l[k]? = some p) (hm : p.blk.code[m]? = some i) (hw : j.Wf) (hi : i.Wf) (hp : p.a = some ⟨cb, 0, none⟩) :
    BlkOwn N T E ((((((w.setCell ⟨cb, m * 6, none⟩ (.int .u8 j.op)).setCell ⟨cb, m * 6 + 1, none⟩ (.int .i64 j.dst)).setCell ⟨cb, m * 6 + 2, none⟩ (.int .i64 j.x)).setCell ⟨cb, m * 6 + 3, none⟩ (.int .i64 j.y)).setCell ⟨cb, m * 6 + 4, none⟩ (.int .i64 j.imm)).setCell ⟨cb, m * 6 + 5, none⟩ (.string j.sym)) v
      (l.set k ⟨{ p.blk with code := p.blk.code.set m j }, p.a, p.c⟩) := by
  have hkl := (List.getElem?_eq_some_iff.1 hk).1
  have hml := (List.getElem?_eq_some_iff.1 hm).1
  have step : ∀ {W : World} {L : List BlkP} {q r : Ins} {o : Nat} {u : Value}, BlkOwn N T E W v L → L = l.set k ⟨{ p.blk with code := p.blk.code.set m q }, p.a, p.c⟩ → o < 6 → r.Wf → r.cells = q.cells.set o u →
      BlkOwn N T E (W.setCell ⟨cb, m * 6 + o, none⟩ u) v (l.set k ⟨{ p.blk with code := p.blk.code.set m r }, p.a, p.c⟩) := by
    intro W L q r o u hL hLe ho hr hc
    subst hLe
    have h9 := hL.setIns (k := k) (m := m) (o := o) (p := ⟨{ p.blk with code := p.blk.code.set m q }, p.a, p.c⟩) (i := q) (i' := r) (u := u) (cb := cb) (List.getElem?_set_self hkl) (List.getElem?_set_self hml) ho hr hc hp
    rw [set_set] at h9
    simp only [set_set] at h9
    exact h9
  have h0 := h.setIns (k := k) (m := m) (o := 0) (i := i) (i' := { i with op := j.op }) (u := .int .u8 j.op) (cb := cb) hk hm (by omega) ⟨hw.op0, hw.op1, hi.dst, hi.x, hi.y, hi.imm, hi.sym⟩ rfl hp
  have h1 := step (o := 1) (u := .int .i64 j.dst) (r := { i with op := j.op, dst := j.dst }) h0 rfl (by omega) ⟨hw.op0, hw.op1, hw.dst, hi.x, hi.y, hi.imm, hi.sym⟩ rfl
  have h2 := step (o := 2) (u := .int .i64 j.x) (r := { i with op := j.op, dst := j.dst, x := j.x }) h1 rfl (by omega) ⟨hw.op0, hw.op1, hw.dst, hw.x, hi.y, hi.imm, hi.sym⟩ rfl
  have h3 := step (o := 3) (u := .int .i64 j.y) (r := { i with op := j.op, dst := j.dst, x := j.x, y := j.y }) h2 rfl (by omega) ⟨hw.op0, hw.op1, hw.dst, hw.x, hw.y, hi.imm, hi.sym⟩ rfl
  have h4 := step (o := 4) (u := .int .i64 j.imm) (r := { i with op := j.op, dst := j.dst, x := j.x, y := j.y, imm := j.imm }) h3 rfl (by omega) ⟨hw.op0, hw.op1, hw.dst, hw.x, hw.y, hw.imm, hi.sym⟩ rfl
  exact step (o := 5) (u := .string j.sym) (r := j) h4 rfl (by omega) hw rfl
end
/-- the copy in its box, the flag in a box behind it -/
structure BndSt (TF TB TI : TypeId) (V : World) (gb g n c : Nat) (cells : Array Value) (l : List BlkP) (w : World) : Prop where
  gx : w.heap[gb]? = some (.cells cells TF)
  row : BlkOwn V.heap.size TB TI w (.slice (some ⟨g, 0, none⟩) n c) l
  low : Below V.heap.size V w
  up : V.heap.size ≤ gb
section
variable {TF TB TI : TypeId} {V w w' : World} {gb g n c : Nat} {cells : Array Value} {l : List BlkP}
theorem BndSt.keep (h : BndSt TF TB TI V gb g n c cells l w) (hB : Below w.heap.size w w') : BndSt TF TB TI V gb g n c cells l w' :=
  ⟨(hB.block _ (lt_heap h.gx)).trans h.gx, h.row.keep hB, h.low.trans (hB.mono h.low.size), h.up⟩
/-- a store into a box of another type -/
theorem BndSt.flag {b o : Nat} {u : Value} {arr : Array Value} {T : TypeId} (h : BndSt TF TB TI V gb g n c cells l w) (hb : w.heap[b]? = some (.cells arr T)) (h0 : V.heap.size ≤ b) (h1 : T ≠ TF) (h2 : T ≠ TB) (h3 : T ≠ TI) : BndSt TF TB TI V gb g n c cells l (w.setCell ⟨b, o, none⟩ u) := by
  have hne : gb ≠ b := by
    rintro rfl
    rw [h.gx] at hb
    injection hb with hb
    injection hb with _ e
    exact h1 e.symm
  refine ⟨(Below.heap_setCell _ _ _ _ hne).trans h.gx, h.row.moveNe (b := some b) (fun k _ hk => Below.heap_setCell _ _ _ _ (fun e => hk (by rw [show k = b from e]))) (.inr (ownsRow_ne h.row.row hb h2)) (fun p hp => .inr (ownsRow_ne (h.row.code p hp) hb h3)), h.low.setCell h0 _, h.up⟩
/-- an instruction is stored -/
theorem BndSt.setWhole {k m cb : Nat} {p : BlkP} {i j : Ins} (h : BndSt TF TB TI V gb g n c cells l w) (hne : TF ≠ TI) (hk : l[k]? = some p) (hm : p.blk.code[m]? = some i) (hw : j.Wf) (hi : i.Wf) (hp : p.a = some ⟨cb, 0, none⟩) :
    BndSt TF TB TI V gb g n c cells (l.set k ⟨{ p.blk with code := p.blk.code.set m j }, p.a, p.c⟩)
      ((((((w.setCell ⟨cb, m * 6, none⟩ (.int .u8 j.op)).setCell ⟨cb, m * 6 + 1, none⟩ (.int .i64 j.dst)).setCell ⟨cb, m * 6 + 2, none⟩ (.int .i64 j.x)).setCell ⟨cb, m * 6 + 3, none⟩ (.int .i64 j.y)).setCell ⟨cb, m * 6 + 4, none⟩ (.int .i64 j.imm)).setCell ⟨cb, m * 6 + 5, none⟩ (.string j.sym)) := by
  have hcode := h.row.code p (List.mem_of_getElem? hk)
  have hcb : p.code.ownBlock = some cb := by unfold BlkP.code; rw [hp]; rfl
  have hg : gb ≠ cb := by
    rintro rfl
    exact ownsRow_ne hcode h.gx hne hcb
  have hlt := (ownsRow_lt hcode hcb).1
  refine ⟨?_, h.row.setWhole hk hm hw hi hp, (((((h.low.setCell hlt _).setCell hlt _).setCell hlt _).setCell hlt _).setCell hlt _).setCell hlt _, h.up⟩
  rw [Below.heap_setCell _ _ _ _ (by exact hg), Below.heap_setCell _ _ _ _ (by exact hg), Below.heap_setCell _ _ _ _ (by exact hg), Below.heap_setCell _ _ _ _ (by exact hg), Below.heap_setCell _ _ _ _ (by exact hg), Below.heap_setCell _ _ _ _ (by exact hg)]
  exact h.gx
end
/-- how much of each block is struck -/
def cntZ (k m j len : Nat) : Nat := if j < k then len else if j = k then m else 0
/-- the copy's blocks: the first k are struck, and the first m instructions of the k-th -/
structure ZapL (r : Int) (f : Fn) (l : List BlkP) (k m : Nat) : Prop where
  len : l.length = f.blocks.length
  get : ∀ (j : Nat) (b : Blk), f.blocks[j]? = some b → ∃ a c, l[j]? = some ⟨zapC r (cntZ k m j b.code.length) b, a, c⟩
theorem ZapL.start {r : Int} {f : Fn} {l : List BlkP} (h : l.map (·.blk) = f.blocks) : ZapL r f l 0 0 := by
  refine ⟨by have := congrArg List.length h; simpa using this, fun j b hb => ?_⟩
  rw [← h, List.getElem?_map] at hb
  obtain ⟨p, hp, rfl⟩ := Option.map_eq_some_iff.1 hb
  refine ⟨p.a, p.c, ?_⟩
  have : cntZ 0 0 j p.blk.code.length = 0 := by unfold cntZ; rw [if_neg (by omega)]; split <;> rfl
  rw [this, zapC_none]
  exact hp
theorem ZapL.next {r : Int} {f : Fn} {l : List BlkP} {k : Nat} {b : Blk} (h : ZapL r f l k b.code.length) (hb : f.blocks[k]? = some b) : ZapL r f l (k + 1) 0 := by
  refine ⟨h.len, fun j c hc => ?_⟩
  obtain ⟨x, y, e⟩ := h.get j c hc
  refine ⟨x, y, ?_⟩
  have : cntZ (k + 1) 0 j c.code.length = cntZ k b.code.length j c.code.length := by
    unfold cntZ
    by_cases h1 : j < k
    · rw [if_pos h1, if_pos (by omega)]
    · by_cases h2 : j = k
      · subst h2
        rw [hb] at hc
        injection hc with hc
        subst hc
        rw [if_pos (by omega), if_neg (by omega), if_pos rfl]
      · rw [if_neg h1, if_neg h2, if_neg (by omega)]
        split <;> rfl
  rw [this]
  exact e
theorem ZapL.at_ {r : Int} {f : Fn} {l : List BlkP} {k m : Nat} {b : Blk} (h : ZapL r f l k m) (hb : f.blocks[k]? = some b) : ∃ a c, l[k]? = some ⟨zapC r m b, a, c⟩ := by
  obtain ⟨a, c, e⟩ := h.get k b hb
  refine ⟨a, c, ?_⟩
  have : cntZ k m k b.code.length = m := by unfold cntZ; rw [if_neg (by omega), if_pos rfl]
  rwa [this] at e
theorem ZapL.kept {r : Int} {f : Fn} {l : List BlkP} {k m : Nat} {b : Blk} {i : Ins} (h : ZapL r f l k m) (hb : f.blocks[k]? = some b) (hi : b.code[m]? = some i) (hz : zapI r i = i) : ZapL r f l k (m + 1) := by
  refine ⟨h.len, fun j c hc => ?_⟩
  obtain ⟨x, y, e⟩ := h.get j c hc
  refine ⟨x, y, ?_⟩
  rw [e]
  unfold cntZ
  by_cases h1 : j < k
  · rw [if_pos h1, if_pos h1]
  · by_cases h2 : j = k
    · subst h2
      rw [hb] at hc
      injection hc with hc
      subst hc
      rw [if_neg h1, if_neg h1, if_pos rfl, if_pos rfl, zapC_same hi hz]
    · rw [if_neg h1, if_neg h1, if_neg h2, if_neg h2]
theorem ZapL.struck {r : Int} {f : Fn} {l : List BlkP} {k m : Nat} {b : Blk} {i : Ins} {p : BlkP} (h : ZapL r f l k m) (hb : f.blocks[k]? = some b) (hi : b.code[m]? = some i) (hp : l[k]? = some p) (hz : zapI r i = zeroI) : ZapL r f (l.set k ⟨{ p.blk with code := p.blk.code.set m zeroI }, p.a, p.c⟩) k (m + 1) := by
  refine ⟨by rw [List.length_set, h.len], fun j c hc => ?_⟩
  obtain ⟨x, y, e⟩ := h.get j c hc
  by_cases h2 : j = k
  · subst h2
    rw [hb] at hc
    injection hc with hc
    subst hc
    refine ⟨p.a, p.c, ?_⟩
    have hjl := (List.getElem?_eq_some_iff.1 hp).1
    rw [List.getElem?_set_self hjl]
    have e1 : cntZ j m j b.code.length = m := by unfold cntZ; rw [if_neg (by omega), if_pos rfl]
    have e2 : cntZ j (m + 1) j b.code.length = m + 1 := by unfold cntZ; rw [if_neg (by omega), if_pos rfl]
    rw [e1, hp] at e
    injection e with e
    rw [e2, zapC_step hi, hz, e]
  · refine ⟨x, y, ?_⟩
    rw [List.getElem?_set_ne (fun e => h2 e.symm), e]
    unfold cntZ
    by_cases h1 : j < k
    · rw [if_pos h1, if_pos h1]
    · rw [if_neg h1, if_neg h1, if_neg h2, if_neg h2]
theorem ZapL.done {r : Int} {f : Fn} {l : List BlkP} {m : Nat} (h : ZapL r f l f.blocks.length m) : l.map (·.blk) = (zapF r f).blocks := by
  apply List.ext_getElem?
  intro j
  show _ = (f.blocks.map (zapB r))[j]?
  rw [List.getElem?_map, List.getElem?_map]
  cases hj : f.blocks[j]? with
  | none =>
    have : l[j]? = none := List.getElem?_eq_none (by rw [h.len]; exact List.getElem?_eq_none_iff.1 hj)
    rw [this]; rfl
  | some b =>
    obtain ⟨x, y, e⟩ := h.get j b hj
    have hlt := (List.getElem?_eq_some_iff.1 hj).1
    have : cntZ f.blocks.length m j b.code.length = b.code.length := by unfold cntZ; rw [if_pos hlt]
    rw [e, this, zapC_all]
    rfl
end Go.Proofs.YteknhnnlhhgppaaDoor
