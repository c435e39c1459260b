/-
  solve (package liveness): rows that are made, a set appended, what stays.
-/
import Derived.Test.YteknhnnlhhgppaaDoorLiveSt
import Derived.Test.YteknhnnlhhgppaaDoorMg1
namespace Go.Proofs.YteknhnnlhhgppaaDoor
set_option linter.unusedVariables false
set_option linter.unusedSimpArgs false
open Go.RowKit
set_option maxRecDepth 100000
set_option maxHeartbeats 4000000

theorem Tryd.infoSet : (Tryd.prog.info? 86).map (fun i => (i.zero, i.size, i.bytes)) = some (some (.slice none 0 0), 1, 24) := by kernel_rfl
theorem Tryd.infoIs : (Tryd.prog.info? 39).map (fun i => (i.zero, i.size, i.bytes)) = some (some (.slice none 0 0), 1, 24) := by kernel_rfl
theorem Tryd.infoBl : (Tryd.prog.info? 4).map (fun i => (i.zero, i.size, i.bytes)) = some (some (.bool false), 1, 1) := by kernel_rfl
theorem make_ints (n : Nat) (hn : n ≤ 10000) (w : World) : (Instr.makeSlice 28 (.int .i64 (n : Int)) (.int .i64 (n : Int))).run Tryd.prog w = .ok (.slice (some ⟨w.heap.size, 0, none⟩) n n) (w.alloc (.cells (Array.replicate n (Value.slice none 0 0)) 39)) := by
  obtain ⟨i0, hi, hz0, hz1, hz2⟩ := info_parts Tryd.infoIs
  rw [run_make w 28 39 i0 _ Tryd.underlying28 hi hz0 .i64 .i64 n n (by omega) (by omega) (by rw [hz2]; omega) (by omega)]
  have e : madeCells (Value.slice none 0 0).cells (((n : Int)).toNat * i0.size) = (Array.replicate n (Value.slice none 0 0)) := by
    rw [hz1, Int.toNat_natCast, Nat.mul_one]
    apply Array.toList_inj.1
    rw [show (Value.slice none 0 0).cells = #[Value.slice none 0 0] from rfl, toList_madeCells_one, Array.toList_replicate]
  rw [e, Int.toNat_natCast]
theorem make_bools (n : Nat) (hn : n ≤ 10000) (w : World) : (Instr.makeSlice 125 (.int .i64 (n : Int)) (.int .i64 (n : Int))).run Tryd.prog w = .ok (.slice (some ⟨w.heap.size, 0, none⟩) n n) (w.alloc (.cells (Array.replicate n (Value.bool false)) 4)) := by
  obtain ⟨i0, hi, hz0, hz1, hz2⟩ := info_parts Tryd.infoBl
  rw [run_make w 125 4 i0 _ Tryd.underlying125 hi hz0 .i64 .i64 n n (by omega) (by omega) (by rw [hz2]; omega) (by omega)]
  have e : madeCells (Value.bool false).cells (((n : Int)).toNat * i0.size) = (Array.replicate n (Value.bool false)) := by
    rw [hz1, Int.toNat_natCast, Nat.mul_one]
    apply Array.toList_inj.1
    rw [show (Value.bool false).cells = #[Value.bool false] from rfl, toList_madeCells_one, Array.toList_replicate]
  rw [e, Int.toNat_natCast]
theorem five_cells {w : World} {b : Nat} {t : TypeId} {v0 v1 v2 v3 v4 : Value} (h : w.heap[b]? = some (.cells #[v0, v1, v2, v3, v4] t)) :
    w.cell? ⟨b, 0, none⟩ = some v0 ∧ w.cell? ⟨b, 1, none⟩ = some v1 ∧ w.cell? ⟨b, 2, none⟩ = some v2 ∧ w.cell? ⟨b, 3, none⟩ = some v3 ∧ w.cell? ⟨b, 4, none⟩ = some v4 :=
  ⟨cell_heap h 0, cell_heap h 1, cell_heap h 2, cell_heap h 3, cell_heap h 4⟩
/-- append(l, u): sets -/
theorem wpList_append_set (w : World) {ops : Array Oper} {rest : List Oper} {o : Oper} {a : Act} {Q : Exit → Act → World → Prop}
    (hg : o.guard = none) (s x : Operand) (hop : o.op = Op.call { callee := Callee.builtin Builtin.append, args := #[s, x], argTypes := #[82, 82] })
    (B n : Nat) (v : Value) (xs : List Value) (g : Nat) (ya : Option Addr) (yn yc : Nat) (hs : a.eval s = v) (hx : a.eval x = .slice (some ⟨g, 0, none⟩) 1 1) (hown : w.ownsRow B 86 1 v n xs)
    (hc : w.cell? ⟨g, 0, none⟩ = some (.slice ya yn yc)) (hl : n ≤ 1000000) (hB : B ≤ w.heap.size)
    (hK : ∀ v' w', w'.ownsRow B 86 1 v' (n + 1) (xs ++ [.slice ya yn yc]) → w.grownBy w' v.ownBlock → (v'.ownBlock = v.ownBlock ∨ v'.ownBlock = some w.heap.size) → wpList Tryd.prog ops Q rest (a.put o.dst v') w') :
    wpList Tryd.prog ops Q (o :: rest) a w := by
  obtain ⟨i0, hi, hz0, hz1, hz2⟩ := info_parts Tryd.infoSet
  refine wpList_append_src w hg s x 82 hop B 86 i0 _ 1 24 Tryd.underlying82 hi hz0 hz1 hz2 rfl (by decide) v n xs hs hown (some ⟨g, 0, none⟩) 1 1 [.slice ya yn yc] hx ?_ ?_ ?_ ?_ hB hK
  · refine ⟨rfl, .inr ⟨⟨g, 0, none⟩, rfl, fun j u hu => ?_⟩⟩
    match j, hu with
    | 0, hu => simp at hu; subst hu; exact hc
  · intro q hq; simp at hq; subst hq; rfl
  · unfold maxLen; omega
  · omega
theorem block_other {w w' : World} {M m size' b : Nat} {T T' : TypeId} {v : Value} {ys arr : _} (k : w.ownsRow M T size' v m ys) (hz : w.heap[b]? = some (.cells arr T')) (hT : T' ≠ T) (ht : Turn v w w') : w'.heap[b]? = some (.cells arr T') :=
  (ht.block b (lt_heap hz) (ownsRow_ne k hz hT)).trans hz
section
variable {B R : Nat} {w w' : World} {iv ov pv wv kv : Value} {ins outs : List (Value × Nat)} {prev : List (Value × List Nat)} {wait : List Bool} {work : List Nat}
theorem SolSt.base {B' : Nat} (h : SolSt B R w iv ov pv wv kv ins outs prev wait work) (hB : B' ≤ B) : SolSt B' R w iv ov pv wv kv ins outs prev wait work :=
  { h with io := ownsRow_base h.io hB, oo := ownsRow_base h.oo hB, po := ownsRow_base h.po hB, wo := ownsRow_base h.wo hB, ko := ownsRow_base h.ko hB, ii := fun p hp => (h.ii p hp).base hB, oi := fun p hp => (h.oi p hp).base hB, pi := fun p hp => ownsRow_base (h.pi p hp) hB }
/-- a set apart turns -/
theorem SolSt.turnSet {M R' s : Nat} {v : Value} (h : SolSt B R w iv ov pv wv kv ins outs prev wait work) (hv : SetV M R' w v s) (h1 : ∀ p ∈ ins, Apart p.1 v) (h2 : ∀ p ∈ outs, Apart p.1 v) (ht : Turn v w w') : SolSt B R w' iv ov pv wv kv ins outs prev wait work :=
  { h with io := row_other h.io hv.row (by decide) ht, oo := row_other h.oo hv.row (by decide) ht, po := row_other h.po hv.row (by decide) ht, wo := row_other h.wo hv.row (by decide) ht, ko := row_other h.ko hv.row (by decide) ht, ii := fun p hp => (h.ii p hp).apart (h1 p hp) ht, oi := fun p hp => (h.oi p hp).apart (h2 p hp) ht, pi := fun p hp => row_other (h.pi p hp) hv.row (by decide) ht }
/-- the beginning: three rows empty, two made -/
theorem SolSt.start {n : Nat} (hn : n ≤ 10000) (hB : B ≤ w.heap.size) :
    SolSt B R ((w.alloc (.cells (Array.replicate n (Value.slice none 0 0)) 39)).alloc (.cells (Array.replicate n (Value.bool false)) 4)) (.slice none 0 0) (.slice none 0 0) (.slice (some ⟨w.heap.size, 0, none⟩) n n) (.slice (some ⟨w.heap.size + 1, 0, none⟩) n n) (.slice none 0 0) [] [] (List.replicate n (.slice none 0 0, [])) (List.replicate n false) [] := by
  have hz : (w.alloc (.cells (Array.replicate n (Value.slice none 0 0)) 39)).heap.size = w.heap.size + 1 := by simp
  refine { io := World.ownsRow_nil _ _ _ _, oo := World.ownsRow_nil _ _ _ _, po := ?_, wo := ?_, ko := IntRow.nil, ii := by simp, oi := by simp, pi := fun p hp => ?_, ne := .inl rfl, sets := by simp, outs_ne := by simp, prevs := fun i j p q _ h1 _ => ?_, pk := fun p hp => ?_ }
  · have h1 := World.ownsRow_lit (base := B) (e := 39) (size := 1) w (Array.replicate n (Value.slice none 0 0)) n hB (by unfold maxLen; omega) (by simp)
    have h2 := ownsRow_below h1 ((Below.refl _ _).alloc (Nat.le_refl _) (.cells (Array.replicate n (Value.bool false)) 4))
    simpa using h2
  · have h1 := World.ownsRow_lit (base := B) (e := 4) (size := 1) (w.alloc (.cells (Array.replicate n (Value.slice none 0 0)) 39)) (Array.replicate n (Value.bool false)) n (by omega) (by unfold maxLen; omega) (by simp)
    rw [hz] at h1
    simpa using h1
  · obtain rfl := List.eq_of_mem_replicate hp
    exact IntRow.nil
  · obtain rfl := List.eq_of_mem_replicate (List.mem_of_getElem? h1)
    exact .inl rfl
  · obtain rfl := List.eq_of_mem_replicate hp
    exact .inl rfl
theorem SolSt.cellIn {k : Nat} {p : Value × Nat} (h : SolSt B R w iv ov pv wv kv ins outs prev wait work) (hk : ins[k]? = some p) : ∃ g c, iv = .slice (some ⟨g, 0, none⟩) ins.length c ∧ w.cell? ⟨g, k, none⟩ = some p.1 ∧ w.frozen? ⟨g, k, none⟩ = false ∧ g < w.heap.size := by
  obtain ⟨a, c, rfl⟩ := ownsRow_val h.io
  have hlt := (List.getElem?_eq_some_iff.1 hk).1
  obtain ⟨g, rfl, _, hg, _⟩ := own_some h.io (by omega)
  exact ⟨g, c, rfl, own_cell h.io (by rw [List.getElem?_map, hk]; rfl), row_free h.io k, hg⟩
theorem SolSt.cellOut {k : Nat} {p : Value × Nat} (h : SolSt B R w iv ov pv wv kv ins outs prev wait work) (hk : outs[k]? = some p) : ∃ g c, ov = .slice (some ⟨g, 0, none⟩) outs.length c ∧ w.cell? ⟨g, k, none⟩ = some p.1 ∧ w.frozen? ⟨g, k, none⟩ = false ∧ g < w.heap.size := by
  obtain ⟨a, c, rfl⟩ := ownsRow_val h.oo
  have hlt := (List.getElem?_eq_some_iff.1 hk).1
  obtain ⟨g, rfl, _, hg, _⟩ := own_some h.oo (by omega)
  exact ⟨g, c, rfl, own_cell h.oo (by rw [List.getElem?_map, hk]; rfl), row_free h.oo k, hg⟩
theorem SolSt.cellInA {k g n c : Nat} {p : Value × Nat} (h : SolSt B R w (.slice (some ⟨g, 0, none⟩) n c) ov pv wv kv ins outs prev wait work) (hn : n = ins.length) (hk : ins[k]? = some p) : w.cell? ⟨g, k, none⟩ = some p.1 ∧ w.frozen? ⟨g, k, none⟩ = false ∧ g < w.heap.size := by
  subst hn
  exact ⟨own_cell h.io (by rw [List.getElem?_map, hk]; rfl), row_free h.io k, (ownsRow_lt h.io rfl).2⟩
theorem SolSt.cellOutA {k g n c : Nat} {p : Value × Nat} (h : SolSt B R w iv (.slice (some ⟨g, 0, none⟩) n c) pv wv kv ins outs prev wait work) (hn : n = outs.length) (hk : outs[k]? = some p) : w.cell? ⟨g, k, none⟩ = some p.1 ∧ w.frozen? ⟨g, k, none⟩ = false ∧ g < w.heap.size := by
  subst hn
  exact ⟨own_cell h.oo (by rw [List.getElem?_map, hk]; rfl), row_free h.oo k, (ownsRow_lt h.oo rfl).2⟩
theorem SolSt.cellPrev {k g n c : Nat} {p : Value × List Nat} (h : SolSt B R w iv ov (.slice (some ⟨g, 0, none⟩) n c) wv kv ins outs prev wait work) (hn : n = prev.length) (hk : prev[k]? = some p) : w.cell? ⟨g, k, none⟩ = some p.1 ∧ w.frozen? ⟨g, k, none⟩ = false ∧ g < w.heap.size := by
  subst hn
  exact ⟨own_cell h.po (by rw [List.getElem?_map, hk]; rfl), row_free h.po k, (ownsRow_lt h.po rfl).2⟩
theorem SolSt.cellWait {k g n c : Nat} {p : Bool} (h : SolSt B R w iv ov pv (.slice (some ⟨g, 0, none⟩) n c) kv ins outs prev wait work) (hn : n = wait.length) (hk : wait[k]? = some p) : w.cell? ⟨g, k, none⟩ = some (.bool p) ∧ w.frozen? ⟨g, k, none⟩ = false ∧ g < w.heap.size := by
  subst hn
  exact ⟨own_cell h.wo (by rw [List.getElem?_map, hk]; rfl), row_free h.wo k, (ownsRow_lt h.wo rfl).2⟩
end
/-- the predecessors, up to block j, and of block j the first k targets -/
structure PrevUp (f : Fn) (j k : Nat) (ps : List (List Nat)) : Prop where
  len : ps.length = f.blocks.length
  has : ∀ i b, i < j → f.blocks[i]? = some b → ∀ t ∈ b.succ, i ∈ ps.getD t.toNat []
  now : ∀ b, f.blocks[j]? = some b → ∀ t ∈ b.succ.take k, j ∈ ps.getD t.toNat []
  lt : ∀ i, ∀ x ∈ ps.getD i [], x < f.blocks.length
  few : ∀ i, (ps.getD i []).length ≤ 2 * j + k
theorem PrevUp.start {f : Fn} : PrevUp f 0 0 (List.replicate f.blocks.length []) := by
  have hz : ∀ k, (List.replicate f.blocks.length ([] : List Nat)).getD k [] = [] := fun k => by
    rw [List.getD_eq_getElem?_getD, List.getElem?_replicate]
    split <;> rfl
  exact ⟨by simp, fun i b h => absurd h (by omega), by simp, fun i x hx => by rw [hz] at hx; simp at hx, fun i => by rw [hz]; simp⟩
theorem PrevUp.add {f : Fn} {j k : Nat} {b : Blk} {t : Int} {ps : List (List Nat)} (h : PrevUp f j k ps) (hb : f.blocks[j]? = some b) (ht : b.succ[k]? = some t) (hl : t.toNat < f.blocks.length) : PrevUp f j (k + 1) (ps.set t.toNat (ps.getD t.toNat [] ++ [j])) := by
  have hj := (List.getElem?_eq_some_iff.1 hb).1
  have hget : ∀ i, (ps.set t.toNat (ps.getD t.toNat [] ++ [j])).getD i [] = if i = t.toNat then ps.getD t.toNat [] ++ [j] else ps.getD i [] := fun i => by
    rw [getD_set]
    by_cases e : i = t.toNat
    · rw [if_pos ⟨e, by rw [h.len]; exact hl⟩, if_pos e]
    · rw [if_neg (fun e' => e e'.1), if_neg e]
  have hsub : ∀ i x, x ∈ ps.getD i [] → x ∈ (ps.set t.toNat (ps.getD t.toNat [] ++ [j])).getD i [] := fun i x hx => by
    rw [hget]
    split
    · rename_i e; subst e; exact List.mem_append_left _ hx
    · exact hx
  refine ⟨by rw [List.length_set]; exact h.len, fun i c hi hc u hu => hsub _ _ (h.has i c hi hc u hu), fun c hc u hu => ?_, fun i x hx => ?_, fun i => ?_⟩
  · rw [hb] at hc
    obtain rfl := Option.some.inj hc
    rw [take_snoc ht] at hu
    rcases List.mem_append.1 hu with hu | hu
    · exact hsub _ _ (h.now b hb u hu)
    · obtain rfl := List.mem_singleton.1 hu
      rw [hget, if_pos rfl]
      simp
  · rw [hget] at hx
    split at hx
    · rcases List.mem_append.1 hx with hx | hx
      · exact h.lt _ x hx
      · obtain rfl := List.mem_singleton.1 hx
        exact hj
    · exact h.lt _ x hx
  · rw [hget]
    split
    · rw [List.length_append, List.length_singleton]
      have := h.few t.toNat
      omega
    · have := h.few i
      omega
theorem PrevUp.next {f : Fn} {j : Nat} {b : Blk} {ps : List (List Nat)} (h : PrevUp f j b.succ.length ps) (hb : f.blocks[j]? = some b) (h2 : b.succ.length ≤ 2) : PrevUp f (j + 1) 0 ps := by
  refine ⟨h.len, fun i c hi hc u hu => ?_, by simp, h.lt, fun i => by have := h.few i; omega⟩
  by_cases e : i = j
  · subst e
    exact h.now c hc u (by rw [hb] at hc; obtain rfl := Option.some.inj hc; rwa [List.take_length])
  · exact h.has i c (by omega) hc u hu
theorem IntRow.valN {B : Nat} {w : World} {v : Value} {l : List Nat} (h : IntRow B w v (natInts l)) : ∃ a c, v = .slice a l.length c := by
  obtain ⟨a, c, h9⟩ := h.val
  rw [natInts_len] at h9
  exact ⟨a, c, h9⟩
theorem IntRow.valR {B j : Nat} {w : World} {v : Value} (h : IntRow B w v (natInts (List.range j))) : ∃ a c, v = .slice a j c := by
  obtain ⟨a, c, h9⟩ := h.valN
  rw [List.length_range] at h9
  exact ⟨a, c, h9⟩
theorem succ_two (b : Blk) : b.succ.length ≤ 2 := by unfold Blk.succ; split <;> (try split) <;> simp
end Go.Proofs.YteknhnnlhhgppaaDoor
