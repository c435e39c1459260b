/-
  What an instruction of the runner leaves: one lemma for each operation's plain step, and for each kind of write.
-/
import Derived.Test.YteknhnnlhhgppaaDoorMg5
import Derived.Test.YteknhnnlhhgppaaDoorMg6
namespace Go.Proofs.YteknhnnlhhgppaaDoor
set_option linter.unusedVariables false
set_option linter.unusedSimpArgs false
open Go.RowKit
set_option maxRecDepth 100000

def stepErr : Except Int St → Int
  | .error e => e
  | .ok _ => 0
def stepSt (s : St) : Except Int St → St
  | .error _ => s
  | .ok s' => s'
/-- what an instruction leaves -/
def StepOk (N : Nat) (g : Geo) (names : List ByteArray) (ov : Value) (s : St) (w : World) (r : Except Int St) (e : Ending) (w' : World) : Prop :=
  e = .returned (.int .i64 (stepErr r)) ∧ ∃ ov', RunAt N g names w' ov' (stepSt s r) ∧ Frame g ov ov' w w'
theorem frozen_heap {w : World} {b : Nat} {arr : Array Value} {t : TypeId} (h : w.heap[b]? = some (.cells arr t)) (i : Nat) : w.frozen? ⟨b, i, none⟩ = false := by
  simp [World.frozen?, h]
theorem bytes_eq_iff {a b : ByteArray} : a.toList = b.toList ↔ a = b := by
  constructor
  · intro h
    rw [ByteArray.toList_eq, ByteArray.toList_eq] at h
    cases a; cases b
    simp only at h
    rw [Array.toList_inj.1 h]
  · rintro rfl; rfl
theorem bytes_ne {a b : ByteArray} (h : ¬ a = b) : (a.toList != b.toList) = true := by
  simp only [bne_iff_ne, ne_eq]
  exact fun e => h (bytes_eq_iff.1 e)
theorem wrap_id {n : Int} (h0 : -2147483648 ≤ n) (h1 : n ≤ 2147483647) : wrap32 n = n := by unfold wrap32; omega
section
variable {N : Nat} {g : Geo} {names : List ByteArray} {w w' V : World} {ov ov' : Value} {s s' : St} {r : Except Int St} {e : Ending}
theorem RunAt.cell (h : RunAt N g names w ov s) (k : Nat) : w.cell? ⟨g.rb, k, none⟩ = (runCells g ov s)[k]? := cell_heap h.run k
theorem RunAt.reg (h : RunAt N g names w ov s) {k : Nat} (hk : k < s.regs.length) : w.cell? ⟨g.rg, k, none⟩ = some (.int .i32 (s.reg k)) := by
  rw [cell_heap h.regs]
  simp [w32, St.reg, hk]
theorem RunAt.regw (h : RunAt N g names w ov s) {k : Nat} (hk : k < s.regs.length) : Wd.W (s.reg k) := by
  refine h.wf.regs _ ?_
  simp [St.reg, hk]
theorem cnt_mem (h : s.Wf) (k : Nat) (hk : k < 4) : s.cnt.getD k 0 ∈ s.cnt := by
  have := h.cnt
  simp [hk, this]
/-- an instruction that ends well -/
theorem StepOk.ok (hr : r = .ok s') (h : RunAt N g names V ov' s') (hf : Frame g ov ov' w V) (h1 : w'.heap = V.heap) (h2 : w'.os = V.os) (h3 : w'.tape = V.tape) (h4 : w'.output = V.output) : StepOk N g names ov s w r (.returned (.int .i64 0)) w' := by
  subst hr
  exact ⟨rfl, ov', h.same h1, ⟨h2.trans hf.os, h3.trans hf.tape, h4.trans hf.output, by rw [h1]; exact hf.size, by rw [h1]; exact hf.block, hf.ovs⟩⟩
theorem StepOk.trap {n : Int} (hr : r = .error n) (h : RunAt N g names V ov' s) (hf : Frame g ov ov' w V) (h1 : w'.heap = V.heap) (h2 : w'.os = V.os) (h3 : w'.tape = V.tape) (h4 : w'.output = V.output) : StepOk N g names ov s w r (.returned (.int .i64 n)) w' := by
  subst hr
  exact ⟨rfl, ov', h.same h1, ⟨h2.trans hf.os, h3.trans hf.tape, h4.trans hf.output, by rw [h1]; exact hf.size, by rw [h1]; exact hf.block, hf.ovs⟩⟩
theorem RunAt.setCount (h : RunAt N g names w ov s) {k : Nat} {v : Int} {c : Nat} (hk : k < 4) (hv : Wd.W v) (hc : c = k + 1) : RunAt N g names (w.setCell ⟨g.rb, c, none⟩ (.int .i32 v)) ov (s.setCount k v) := by
  subst hc
  have hl := h.wf.cnt
  refine h.setCell ⟨by simp [St.setCount, hl], h.wf.regs, fun x hx => ?_, h.wf.mem, h.wf.held⟩ rfl rfl rfl ?_
  · rcases List.mem_or_eq_of_mem_set hx with hx | rfl
    · exact h.wf.cnts x hx
    · exact hv
  · match k, hk with
    | 0, _ => simp [runCells, St.setCount, hl]
    | 1, _ => simp [runCells, St.setCount, hl]
    | 2, _ => simp [runCells, St.setCount, hl]
    | 3, _ => simp [runCells, St.setCount, hl]
theorem RunAt.setLocked (h : RunAt N g names w ov s) (b : Bool) : RunAt N g names (w.setCell ⟨g.rb, 6, none⟩ (.bool b)) ov { s with locked := b } :=
  h.setCell ⟨h.wf.cnt, h.wf.regs, h.wf.cnts, h.wf.mem, h.wf.held⟩ rfl rfl rfl (by simp [runCells])
theorem RunAt.setHeld (h : RunAt N g names w ov s) (b : ByteArray) (hb : b.size ≤ 9223372036854775807) : RunAt N g names (w.setCell ⟨g.rb, 7, none⟩ (.string b)) ov { s with held := b } :=
  h.setCell ⟨h.wf.cnt, h.wf.regs, h.wf.cnts, h.wf.mem, hb⟩ rfl rfl rfl (by simp [runCells])
theorem RunAt.setRead (h : RunAt N g names w ov s) (n : Nat) : RunAt N g names (w.setCell ⟨g.rb, 10, none⟩ (.int .i64 (n : Int))) ov { s with read := n } :=
  h.setCell ⟨h.wf.cnt, h.wf.regs, h.wf.cnts, h.wf.mem, h.wf.held⟩ rfl rfl rfl (by simp [runCells])
end
section
variable {N : Nat} {g : Geo} {names : List ByteArray} {w w2 V : World} {ov : Value} {s : St} {gb cap : Nat} {i x : Int}
theorem RunAt.grown (h : RunAt N g names w ov s) (hB : Below w.heap.size w V) (hg : V.grownBy w2 ov.ownBlock) {k : Nat} (hk : k < w.heap.size) (hn : ov.ownBlock ≠ some k) : w2.heap[k]? = w.heap[k]? :=
  (hg.block k (Nat.lt_of_lt_of_le hk hB.size) (fun e => hn e.symm)).trans (hB.block k hk)
/-- an output more -/
theorem RunAt.push (h : RunAt N g names w ov s) (hB : Below w.heap.size w V) (hg : V.grownBy w2 ov.ownBlock) (ho : w2.ownsRow N 118 2 (.slice (some ⟨gb, 0, none⟩) (s.out.length + 1) cap) (s.out.length + 1) (outs s.out ++ [.int .i64 i, .int .i32 x]))
    (hp : ov.ownBlock = some gb ∨ V.heap.size ≤ gb) :
    RunAt N g names (w2.setCell ⟨g.rb, 9, none⟩ (.slice (some ⟨gb, 0, none⟩) (s.out.length + 1) cap)) (.slice (some ⟨gb, 0, none⟩) (s.out.length + 1) cap) { s with out := s.out ++ [(i, x)] } := by
  have hlt := lt_heap h.run
  have old : ∀ k, k < w.heap.size → ov.ownBlock ≠ some k → k ≠ g.rb → (w2.setCell ⟨g.rb, 9, none⟩ (.slice (some ⟨gb, 0, none⟩) (s.out.length + 1) cap)).heap[k]? = w.heap[k]? := fun k hk hn hr => (Below.heap_setCell _ _ _ _ hr).trans (h.grown hB hg hk hn)
  have hne : ∀ k, k < w.heap.size → ov.ownBlock ≠ some k → k ≠ gb := by
    intro k hk hn e
    rcases hp with e1 | e1
    · exact hn (by rw [e]; exact e1)
    · have := hB.size; omega
  refine ⟨⟨h.wf.cnt, h.wf.regs, h.wf.cnts, h.wf.mem, h.wf.held⟩, ?_, ?_, h.map.move (old _ h.map.lt h.one.2.2 h.ne2.symm), h.nrows, h.nnames, fun j hj => ?_, ?_, h.rb_, h.rg_, h.mb_, h.ne1, h.ne2, h.ne3, fun j hj => ?_, h.rrn, ?_, ?_, ?_⟩
  · rw [setCell_heap ((h.grown hB hg hlt h.one.1).trans h.run)]
    simp [runCells]
  · exact (old _ (lt_heap h.regs) h.one.2.1 h.ne1.symm).trans h.regs
  · refine ownsRow_move (h.rows j hj) (fun b hb hl => old b hl ?_ ?_)
    · rcases (h.rne j hj).2.2.2 with e | e
      · rw [hb] at e; cases e
      · rw [hb] at e; exact e.symm
    · rintro rfl; exact (h.rne j hj).1 hb
  · have : (outs s.out ++ [Value.int .i64 i, .int .i32 x]) = outs (s.out ++ [(i, x)]) := by simp [outs]
    rw [this] at ho
    simp only [List.length_append, List.length_singleton]
    refine ownsRow_move ho (fun b hb _ => Below.heap_setCell _ _ _ _ ?_)
    cases hb
    exact (hne _ hlt h.one.1).symm
  · obtain ⟨n1, n2, n3, n4⟩ := h.rne j hj
    refine ⟨n1, n2, n3, ?_⟩
    cases hb : (g.rows.getD j undef).ownBlock with
    | none => exact .inl rfl
    | some b =>
      refine .inr (fun e => ?_)
      have e : b = gb := by injection e
      rw [hb] at n4
      have hl := (ownsRow_lt (h.rows j hj) hb).2
      refine hne b hl (fun e1 => ?_) e
      rcases n4 with n4 | n4
      · cases n4
      · exact n4 e1.symm
  · exact fun e => hne _ hlt h.one.1 (by injection e with e; exact e.symm)
  · exact fun e => hne _ (lt_heap h.regs) h.one.2.1 (by injection e with e; exact e.symm)
  · exact fun e => hne _ h.map.lt h.one.2.2 (by injection e with e; exact e.symm)
theorem RunAt.pushFrame (h : RunAt N g names w ov s) (hB : Below w.heap.size w V) (hg : V.grownBy w2 ov.ownBlock) (hp : ov.ownBlock = some gb ∨ V.heap.size ≤ gb) (v : Value) (n c : Nat) : Frame g ov (.slice (some ⟨gb, 0, none⟩) n c) w (w2.setCell ⟨g.rb, 9, none⟩ v) := by
  refine ⟨hg.os.trans hB.os, hg.tape.trans hB.tape, hg.output.trans hB.output, by rw [World.size_setCell]; exact Nat.le_trans hB.size hg.size, fun k hk h0 => ?_, fun k hk => ?_⟩
  · refine (Below.heap_setCell _ _ _ _ (fun e => h0 (.inl e))).trans (h.grown hB hg hk (fun e => h0 (.inr (.inr (.inl e)))))
  · have hk : gb = k := by injection hk
    subst hk
    rcases hp with e | e
    · exact .inl e
    · exact .inr (Nat.le_trans hB.size e)
end
section
variable {names : List ByteArray} {inp : List Int} {d x y imm : Int} {sym : ByteArray} {s : St}
theorem step_1 : step names inp ⟨1, d, x, y, imm, sym⟩ s = .ok (s.setReg d (wrap32 imm)) := rfl
theorem step_2 : step names inp ⟨2, d, x, y, imm, sym⟩ s = .ok (s.setReg d (s.reg x)) := rfl
theorem step_3 : step names inp ⟨3, d, x, y, imm, sym⟩ s = (if Wd.err imm (s.reg y) = 0 then .ok (s.setReg d (Wd.apply imm (s.reg x) (s.reg y))) else .error (Wd.err imm (s.reg y))) := rfl
theorem step_4 : step names inp ⟨4, d, x, y, imm, sym⟩ s = (if s.reg x < 0 ∨ (s.row (pos names sym)).length ≤ s.reg x then .error 10 else .ok (s.setReg d ((s.row (pos names sym)).getD (s.reg x).toNat 0))) := rfl
theorem step_6 : step names inp ⟨6, d, x, y, imm, sym⟩ s = (if s.reg x < 0 ∨ (s.row (pos names sym)).length ≤ s.reg x then .error 10 else .ok (s.setReg d ((s.row (pos names sym)).getD (s.reg x).toNat 0))) := rfl
theorem step_5 : step names inp ⟨5, d, x, y, imm, sym⟩ s = (if s.reg x < 0 ∨ (s.row (pos names sym)).length ≤ s.reg x then .error 10 else .ok { s with mem := s.mem.set (pos names sym) ((s.row (pos names sym)).set (s.reg x).toNat (s.reg y)) }) := rfl
theorem step_7 : step names inp ⟨7, d, x, y, imm, sym⟩ s = (if s.reg x < 0 ∨ (s.row (pos names sym)).length ≤ s.reg x then .error 10 else .ok { s with mem := s.mem.set (pos names sym) ((s.row (pos names sym)).set (s.reg x).toNat (s.reg y)) }) := rfl
theorem step_8 : step names inp ⟨8, d, x, y, imm, sym⟩ s = (if s.reg x < 0 ∨ imm ≤ s.reg x then .error 11 else .ok s) := rfl
theorem step_9 : step names inp ⟨9, d, x, y, imm, sym⟩ s = .ok { s.setReg d (inp.getD s.read 0) with read := s.read + 1 } := rfl
theorem step_10 : step names inp ⟨10, d, x, y, imm, sym⟩ s = .ok { s with out := s.out ++ [(imm, s.reg x)] } := rfl
theorem step_11 : step names inp ⟨11, d, x, y, imm, sym⟩ s = (if s.locked = true then .error 12 else .ok { s with locked := true, held := sym }) := rfl
theorem step_12 : step names inp ⟨12, d, x, y, imm, sym⟩ s = (if s.locked = false ∨ ¬ s.held = sym then .error 12 else .ok { s with locked := false, held := ⟨#[]⟩ }) := rfl
theorem step_13 : step names inp ⟨13, d, x, y, imm, sym⟩ s = .ok (s.setCount imm 0) := rfl
theorem step_14 : step names inp ⟨14, d, x, y, imm, sym⟩ s = .ok (s.setCount imm (wrap32 (s.count imm + 1))) := rfl
theorem step_15 : step names inp ⟨15, d, x, y, imm, sym⟩ s = .ok (s.setReg d (s.count imm)) := rfl
theorem step_16 : step names inp ⟨16, d, x, y, imm, sym⟩ s = (if s.count x < 0 ∨ imm ≤ s.count x then .error 11 else .ok s) := rfl
end
theorem zeroR (w : World) : (zeroValue 66).run Tryd.prog w = .ok (.slice none 0 0) w := by kernel_rfl
theorem look_zip {sym : ByteArray} : ∀ {names : List ByteArray} {rows : List Value}, pos names sym < names.length → names.length = rows.length → look (names.zip rows) sym = some (rows.getD (pos names sym) undef) := by
  intro names
  induction names with
  | nil => intro rows h _; simp at h
  | cons n names ih =>
    intro rows h hl
    cases rows with
    | nil => simp at hl
    | cons r rows =>
      unfold look pos
      rw [List.zip_cons_cons, List.find?_cons, List.findIdx_cons]
      by_cases hn : n = sym
      · simp [hn]
      · have h1 : decide (n = sym) = false := by simpa using hn
        have h2 : pos (n :: names) sym = pos names sym + 1 := by unfold pos; rw [List.findIdx_cons, h1]; rfl
        rw [h2] at h
        simp only [h1, cond_false]
        have := ih (rows := rows) (by simpa using h) (by simpa using hl)
        unfold look pos at this
        rw [this]
        rfl
theorem ownsRow_val {w : World} {base : Nat} {e : TypeId} {size : Nat} {v : Value} {n : Nat} {xs : List Value} (h : w.ownsRow base e size v n xs) : ∃ a c, v = .slice a n c := by
  rcases h.2 with ⟨rfl, rfl⟩ | ⟨g, cap, cur, rfl, _⟩
  · exact ⟨_, _, rfl⟩
  · exact ⟨_, _, rfl⟩
theorem ownsRow_len {w : World} {base : Nat} {e : TypeId} {size : Nat} {v : Value} {n : Nat} {xs : List Value} (h : w.ownsRow base e size v n xs) : n ≤ 9223372036854775807 := by
  rcases h.2 with ⟨_, rfl⟩ | ⟨g, cap, cur, rfl, _, _, h1, h2, _⟩
  · omega
  · have : cap ≤ 9223372036854775807 := h2
    omega
theorem ownsRow_some {w : World} {base : Nat} {e : TypeId} {size : Nat} {a : Option Addr} {n c : Nat} {xs : List Value} (h : w.ownsRow base e size (.slice a n c) n xs) (hn : 0 < n) : ∃ b, a = some ⟨b, 0, none⟩ := by
  rcases h.2 with ⟨_, h0⟩ | ⟨g, cap, cur, hv, _⟩
  · omega
  · injection hv with hv; exact ⟨g, hv⟩
theorem row_mem {s : St} {j : Nat} (hj : j < s.mem.length) : s.row j ∈ s.mem := by unfold St.row; simp [hj]
theorem getD_mem {l : List Int} {k : Nat} (hk : k < l.length) : l.getD k 0 ∈ l := by simp [hk]
section
variable {N : Nat} {g : Geo} {names : List ByteArray} {w : World} {ov : Value} {s : St} {j b c k : Nat}
theorem RunAt.rowCell (h : RunAt N g names w ov s) (hj : j < s.mem.length) (hv : g.rows.getD j undef = .slice (some ⟨b, 0, none⟩) (s.row j).length c) (hk : k < (s.row j).length) : w.cell? ⟨b, k, none⟩ = some (.int .i32 ((s.row j).getD k 0)) := by
  have ho := h.rows j hj
  rw [hv] at ho
  have := ho.cells rfl k (.int .i32 ((s.row j).getD k 0)) (by simp [w32, hk])
  have e : (⟨b, 0, none⟩ : Addr).add k = ⟨b, k, none⟩ := by
    unfold Addr.add
    by_cases h0 : k = 0 <;> simp [h0]
  rwa [e] at this
theorem RunAt.rowFree (h : RunAt N g names w ov s) (hj : j < s.mem.length) (hv : g.rows.getD j undef = .slice (some ⟨b, 0, none⟩) (s.row j).length c) (hk : k < (s.row j).length) (i : Nat) : w.frozen? ⟨b, i, none⟩ = false := by
  have ho := h.rows j hj
  rw [hv] at ho
  rcases ho.2 with ⟨h0, _⟩ | ⟨g', cap, cur, h1, _, h2, _⟩
  · cases h0
  · injection h1 with h1
    injection h1 with h1
    injection h1 with h1
    subst h1
    exact frozen_heap h2 i
end
end Go.Proofs.YteknhnnlhhgppaaDoor
