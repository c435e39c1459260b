/-
  Mg35: several texts in one (IrOwn, FMap, LowP).
-/
import Derived.Test.YtkpdngfkdmllkaaDoorMg34
import Derived.Test.YtkpdngfkdmllkaaDoorMg5
import Derived.Test.YtkpdngfkdmllkaaDoorMg2
import Derived.Test.YtkpdngfkdmllkaaDoorMg0
/-
  A function whose rows are the call's own: arrays, blocks, the code of each block (layer 17). No program is named here.
-/
namespace Go.Proofs.YtkpdngfkdmllkaaDoor
set_option linter.unusedVariables false
set_option linter.unusedSimpArgs false
open Go.RowKit
set_option maxRecDepth 100000

theorem own_addr_add (b off j : Nat) : (⟨b, off, none⟩ : Addr).add j = ⟨b, off + j, none⟩ := by
  unfold Addr.add
  by_cases h0 : j = 0 <;> simp [h0]
/-- cells of a flat row -/
theorem src_flat {α : Type} {f : α → List Value} {n : Nat} (hf : ∀ x, (f x).length = n) (hn : 0 < n) {w : World} {A : Option Addr} {l : List α}
    (h : l.length = 0 ∨ ∃ b off, A = some ⟨b, off, none⟩ ∧ ∀ k x, l[k]? = some x → ∀ o, o < n → w.cell? ⟨b, off + k * n + o, none⟩ = (f x)[o]?) : Src w A l.length n (l.flatMap f) := by
  refine ⟨flat_len hf l, ?_⟩
  rcases h with h | ⟨b, off, hA, hc⟩
  · exact .inl h
  · refine .inr ⟨_, hA, fun j u hu => ?_⟩
    have hj : j < l.length * n := by rw [← flat_len hf l]; exact (List.getElem?_eq_some_iff.1 hu).1
    have hk : j / n < l.length := Nat.div_lt_of_lt_mul (by rw [Nat.mul_comm]; exact hj)
    have ho : j % n < n := Nat.mod_lt _ hn
    have e : j / n * n + j % n = j := by rw [Nat.mul_comm]; exact Nat.div_add_mod j n
    have hx := List.getElem?_eq_getElem hk
    have h1 := hc _ _ hx _ ho
    have h2 := flat_get hf hx ho
    rw [e, hu] at h2
    rw [own_addr_add, ← e, ← Nat.add_assoc, h1, ← h2]
/-! ### arrays -/
def arrOne (p : ByteArray × Int) : List Value := [.string p.1, .int .i64 p.2]
theorem arrOne_len (p : ByteArray × Int) : (arrOne p).length = 2 := rfl
theorem arrOne_one (l : List (ByteArray × Int)) : ∀ u ∈ l.flatMap arrOne, u.oneCell' = true := by
  intro u hu
  obtain ⟨p, _, hp⟩ := List.mem_flatMap.1 hu
  simp [arrOne] at hp
  rcases hp with rfl | rfl <;> rfl
theorem arrs_src {w : World} {a : Option Addr} {l : List (ByteArray × Int)} (h : IrArrsAt w a l) : Src w a l.length 2 (l.flatMap arrOne) := by
  refine src_flat arrOne_len (by omega) ?_
  rcases h.at_ with h0 | ⟨b, off, ha, hc⟩
  · exact .inl h0
  · refine .inr ⟨b, off, ha, fun k x hx o ho => ?_⟩
    obtain ⟨h1, h2⟩ := hc k x hx
    match o, ho with
    | 0, _ => exact h1
    | 1, _ => exact h2
theorem arrs_own {w : World} {N : Nat} {T : TypeId} {v : Value} {l : List (ByteArray × Int)} (h : w.ownsRow N T 2 v l.length (l.flatMap arrOne)) (hf : l.length ≤ 9223372036854775807) (hs : ∀ p ∈ l, p.1.size ≤ 9223372036854775807) :
    ∃ a c, v = .slice a l.length c ∧ IrArrsAt w a l := by
  rcases ownsRow_form h with ⟨rfl, h0⟩ | ⟨g, cap, rfl, _, _, _⟩
  · exact ⟨none, 0, by rw [h0], hf, hs, .inl h0⟩
  · refine ⟨some ⟨g, 0, none⟩, cap, rfl, hf, hs, .inr ⟨g, 0, rfl, fun k p hp => ?_⟩⟩
    have key : ∀ o u, o < 2 → (arrOne p)[o]? = some u → w.cell? ⟨g, k * 2 + o, none⟩ = some u := fun o u ho hu => own_cell h ((flat_get arrOne_len hp ho).trans hu)
    rw [Nat.zero_add]
    exact ⟨key 0 _ (by omega) rfl, key 1 _ (by omega) rfl⟩
theorem code_src {w : World} {a : Option Addr} {l : List Ins} (h : CodeAt w a l) : Src w a l.length 6 (codeCells l) := by
  refine src_flat Ins.cells_len (by omega) ?_
  rcases h.at_ with h0 | ⟨b, off, ha, hc⟩
  · exact .inl h0
  · refine .inr ⟨b, off, ha, fun k x hx o ho => ?_⟩
    obtain ⟨h0, h1, h2, h3, h4, h5⟩ := hc k x hx
    match o, ho with
    | 0, _ => exact h0
    | 1, _ => exact h1
    | 2, _ => exact h2
    | 3, _ => exact h3
    | 4, _ => exact h4
    | 5, _ => exact h5
theorem codeCells_one (l : List Ins) : ∀ u ∈ codeCells l, u.oneCell' = true := by
  intro u hu
  obtain ⟨p, _, hp⟩ := List.mem_flatMap.1 hu
  exact p.one u hp
/-- a block that holds something of another type is no row -/
theorem ownsRow_ne {w : World} {N : Nat} {e T : TypeId} {size : Nat} {v : Value} {n b : Nat} {xs : List Value} {arr : Array Value} (h : w.ownsRow N e size v n xs) (hb : w.heap[b]? = some (.cells arr T)) (hT : T ≠ e) : v.ownBlock ≠ some b := by
  intro hv
  rcases h.2 with ⟨rfl, _⟩ | ⟨g, cap, cur, rfl, _, hc, _⟩
  · cases hv
  · cases hv
    rw [hb] at hc
    injection hc with hc
    injection hc with _ e2
    exact hT e2
/-! ### blocks -/
def BlkP.code (p : BlkP) : Value := .slice p.a p.blk.code.length p.c
/-- blocks and their code in rows of the call's own -/
structure BlkOwn (N : Nat) (T E : TypeId) (w : World) (v : Value) (l : List BlkP) : Prop where
  row : w.ownsRow N T 5 v l.length (l.flatMap BlkP.cells)
  wf : ∀ p ∈ l, p.blk.Wf
  iwf : ∀ p ∈ l, ∀ i ∈ p.blk.code, i.Wf
  small : ∀ p ∈ l, p.blk.code.length ≤ 1000000
  code : ∀ p ∈ l, w.ownsRow N E 6 p.code p.blk.code.length (codeCells p.blk.code)
  apart : ∀ p ∈ l, p.code.ownBlock = none ∨ v.ownBlock ≠ p.code.ownBlock
  each : ∀ (i j : Nat) (p q : BlkP), l[i]? = some p → l[j]? = some q → i ≠ j → p.code.ownBlock = none ∨ p.code.ownBlock ≠ q.code.ownBlock
theorem BlkOwn.nil {N : Nat} {T E : TypeId} {w : World} : BlkOwn N T E w (.slice none 0 0) [] :=
  ⟨⟨rfl, .inl ⟨rfl, rfl⟩⟩, fun p hp => (by cases hp), fun p hp => (by cases hp), fun p hp => (by cases hp), fun p hp => (by cases hp), fun p hp => (by cases hp), fun i j p q hp => (by simp at hp)⟩
section
variable {N : Nat} {T E : TypeId} {w w' : World} {v : Value} {l : List BlkP}
theorem BlkOwn.keep (h : BlkOwn N T E w v l) (hb : Below w.heap.size w w') : BlkOwn N T E w' v l :=
  { h with row := ownsRow_below h.row hb, code := fun p hp => ownsRow_below (h.code p hp) hb }
theorem BlkOwn.move (h : BlkOwn N T E w v l) (hm : ∀ k, N ≤ k → k < w.heap.size → w'.heap[k]? = w.heap[k]?) : BlkOwn N T E w' v l :=
  { h with row := ownsRow_move h.row (fun k hk hl => hm k (ownsRow_lt h.row hk).1 hl), code := fun p hp => ownsRow_move (h.code p hp) (fun k hk hl => hm k (ownsRow_lt (h.code p hp) hk).1 hl) }
theorem BlkOwn.toRow (h : BlkOwn N T E w v l) : BlkRow N T w v l := by
  have key : ∀ p ∈ l, CodeAt w p.a p.blk.code ∧ LiesIn N w.heap.size p.a ∧ ∀ d, p.a = some d → p.code.ownBlock = some d.block := fun p hp => by
    obtain ⟨a, c, he, h1, h2, _, h4⟩ := code_own (h.code p hp) (h.iwf p hp) (Nat.le_trans (h.small p hp) (by omega))
    unfold BlkP.code at he
    injection he with e1 e2 e3
    subst e1 e3
    exact ⟨h1, h2, h4⟩
  refine ⟨h.row, h.wf, fun p hp => (key p hp).1, fun p hp => (key p hp).2.1, fun p hp d hd e => ?_⟩
  have hb := (key p hp).2.2 d hd
  rcases h.apart p hp with h1 | h1
  · rw [hb] at h1; cases h1
  · exact h1 (by rw [e, hb])
theorem BlkOwn.push {V w2 : World} {p : BlkP} {gb cap : Nat} (h : BlkOwn N T E w v l) (hN : N ≤ w.heap.size) (hB : Below w.heap.size w V) (hw : p.blk.Wf) (hi : ∀ i ∈ p.blk.code, i.Wf) (hs : p.blk.code.length ≤ 1000000) (hc : V.ownsRow w.heap.size E 6 p.code p.blk.code.length (codeCells p.blk.code))
    (hg : V.grownBy w2 v.ownBlock) (ho : w2.ownsRow N T 5 (.slice (some ⟨gb, 0, none⟩) (l.length + 1) cap) (l.length + 1) (l.flatMap BlkP.cells ++ p.cells)) (hp : v.ownBlock = some gb ∨ V.heap.size ≤ gb) :
    BlkOwn N T E w2 (.slice (some ⟨gb, 0, none⟩) (l.length + 1) cap) (l ++ [p]) := by
  have hVs := hB.size
  have hk : BlkOwn N T E V v l := h.keep hB
  have lo : ∀ q ∈ l, ∀ b, q.code.ownBlock = some b → b < w.heap.size := fun q hq b hb => (ownsRow_lt (h.code q hq) hb).2
  have hi' : ∀ b, p.code.ownBlock = some b → w.heap.size ≤ b ∧ b < V.heap.size := fun b hb => ownsRow_lt hc hb
  have hvb : ∀ b, v.ownBlock = some b → b < w.heap.size := fun b hb => (ownsRow_lt h.row hb).2
  have all : ∀ q ∈ l ++ [p], q.blk.Wf ∧ (∀ i ∈ q.blk.code, i.Wf) ∧ q.blk.code.length ≤ 1000000 ∧ V.ownsRow N E 6 q.code q.blk.code.length (codeCells q.blk.code) ∧ (q.code.ownBlock = none ∨ v.ownBlock ≠ q.code.ownBlock) := by
    intro q hq
    rcases List.mem_append.1 hq with hq | hq
    · exact ⟨hk.wf q hq, hk.iwf q hq, hk.small q hq, hk.code q hq, hk.apart q hq⟩
    · obtain rfl : q = p := by simpa using hq
      refine ⟨hw, hi, hs, ownsRow_base hc hN, ?_⟩
      cases hb : q.code.ownBlock with
      | none => exact .inl rfl
      | some b => exact .inr (fun e => by have := (hi' b hb).1; have := hvb b e; omega)
  refine ⟨by rw [List.length_append, flat_snoc]; exact ho, fun q hq => (all q hq).1, fun q hq => (all q hq).2.1, fun q hq => (all q hq).2.2.1, fun q hq => ?_, fun q hq => ?_, fun i j q r hq hr hij => ?_⟩
  · refine ownsRow_move (all q hq).2.2.2.1 (fun k hk hl => hg.block k hl (fun e => ?_))
    rcases (all q hq).2.2.2.2 with e1 | e1
    · rw [hk] at e1; cases e1
    · exact e1 (by rw [← e, hk])
  · cases hb : q.code.ownBlock with
    | none => exact .inl rfl
    | some b =>
      refine .inr (fun e => ?_)
      have e : gb = b := by injection e
      rcases hp with hp | hp
      · rcases (all q hq).2.2.2.2 with e1 | e1
        · rw [hb] at e1; cases e1
        · exact e1 (by rw [hp, hb, e])
      · have := (ownsRow_lt (all q hq).2.2.2.1 hb).2
        omega
  · have split : ∀ {k : Nat} {q : BlkP}, (l ++ [p])[k]? = some q → l[k]? = some q ∨ (k = l.length ∧ q = p) := by
      intro k q hq
      rcases Nat.lt_or_ge k l.length with hk | hk
      · rw [List.getElem?_append_left hk] at hq; exact .inl hq
      · rw [List.getElem?_append_right hk] at hq
        have hk0 : k - l.length = 0 := by
          rcases Nat.eq_zero_or_pos (k - l.length) with h0 | h0
          · exact h0
          · rw [List.getElem?_eq_none (by simp; omega)] at hq; cases hq
        rw [hk0] at hq
        exact .inr ⟨by omega, by simpa using hq.symm⟩
    rcases split hq with h1 | ⟨h1, e1⟩
    · rcases split hr with h2 | ⟨h2, e2⟩
      · exact h.each i j q r h1 h2 hij
      · cases hb : q.code.ownBlock with
        | none => exact .inl rfl
        | some b => exact .inr (fun e => by have := lo q (List.mem_of_getElem? h1) b hb; have := (hi' b (by rw [← e2]; exact e.symm)).1; omega)
    · rcases split hr with h2 | ⟨h2, e2⟩
      · cases hb : q.code.ownBlock with
        | none => exact .inl rfl
        | some b => exact .inr (fun e => by have := lo r (List.mem_of_getElem? h2) b e.symm; have := (hi' b (by rw [← e1]; exact hb)).1; omega)
      · omega
end
/-- a copy of a function: its rows are the call's own -/
structure CopyAt (N : Nat) (TA TB TI : TypeId) (w : World) (f : Fn) (av bv : Value) (l : List BlkP) : Prop where
  arrs : w.ownsRow N TA 2 av f.arrays.length (f.arrays.flatMap arrOne)
  blks : BlkOwn N TB TI w bv l
  eq : l.map (·.blk) = f.blocks
  apart : av.ownBlock = none ∨ av.ownBlock ≠ bv.ownBlock
  codes : ∀ p ∈ l, av.ownBlock = none ∨ av.ownBlock ≠ p.code.ownBlock
section
variable {N : Nat} {TA TB TI : TypeId} {w w' : World} {f : Fn} {av bv : Value} {l : List BlkP}
theorem CopyAt.keep (h : CopyAt N TA TB TI w f av bv l) (hb : Below w.heap.size w w') : CopyAt N TA TB TI w' f av bv l :=
  { h with arrs := ownsRow_below h.arrs hb, blks := h.blks.keep hb }
theorem CopyAt.move (h : CopyAt N TA TB TI w f av bv l) (hm : ∀ k, N ≤ k → k < w.heap.size → w'.heap[k]? = w.heap[k]?) : CopyAt N TA TB TI w' f av bv l :=
  { h with arrs := ownsRow_move h.arrs (fun k hk hl => hm k (ownsRow_lt h.arrs hk).1 hl), blks := h.blks.move hm }
theorem CopyAt.base {N' : Nat} (h : CopyAt N TA TB TI w f av bv l) (hN : N' ≤ N) : CopyAt N' TA TB TI w f av bv l :=
  { h with arrs := ownsRow_base h.arrs hN, blks := { h.blks with row := ownsRow_base h.blks.row hN, code := fun p hp => ownsRow_base (h.blks.code p hp) hN } }
theorem CopyAt.push {V w2 : World} {p : BlkP} {gb cap : Nat} (h : CopyAt N TA TB TI w f av bv l) (hN : N ≤ w.heap.size) (hB : Below w.heap.size w V) (hw : p.blk.Wf) (hi : ∀ i ∈ p.blk.code, i.Wf) (hs : p.blk.code.length ≤ 1000000) (hc : V.ownsRow w.heap.size TI 6 p.code p.blk.code.length (codeCells p.blk.code))
    (hg : V.grownBy w2 bv.ownBlock) (ho : w2.ownsRow N TB 5 (.slice (some ⟨gb, 0, none⟩) (l.length + 1) cap) (l.length + 1) (l.flatMap BlkP.cells ++ p.cells)) (hp : bv.ownBlock = some gb ∨ V.heap.size ≤ gb) :
    CopyAt N TA TB TI w2 { f with blocks := f.blocks ++ [p.blk] } av (.slice (some ⟨gb, 0, none⟩) (l.length + 1) cap) (l ++ [p]) := by
  have hVs := hB.size
  refine ⟨ownsRow_move h.arrs (fun k hk hl => ?_), h.blks.push hN hB hw hi hs hc hg ho hp, by rw [List.map_append, h.eq]; rfl, ?_, fun q hq => ?_⟩
  · refine (hg.block k (Nat.lt_of_lt_of_le hl hVs) (fun e => ?_)).trans (hB.block k hl)
    rcases h.apart with e1 | e1
    · rw [hk] at e1; cases e1
    · exact e1 (by rw [hk, e])
  · cases ha : av.ownBlock with
    | none => exact .inl rfl
    | some b =>
      refine .inr (fun e => ?_)
      have e : b = gb := by injection e
      rcases hp with hp | hp
      · rcases h.apart with e1 | e1
        · rw [ha] at e1; cases e1
        · exact e1 (by rw [ha, hp, e])
      · have := (ownsRow_lt h.arrs ha).2
        omega
  · rcases List.mem_append.1 hq with hq | hq
    · exact h.codes q hq
    · obtain rfl : q = p := by simpa using hq
      cases ha : av.ownBlock with
      | none => exact .inl rfl
      | some b => exact .inr (fun e => by have := (ownsRow_lt hc e.symm).1; have := (ownsRow_lt h.arrs ha).2; omega)
theorem CopyAt.fnAt {aa ba : Option Addr} {ac bc : Nat} (h : CopyAt N TA TB TI w f (.slice aa f.arrays.length ac) (.slice ba f.blocks.length bc) l) (hr : irI64 f.regs) (hn : f.name.size ≤ 9223372036854775807) (hs : ∀ p ∈ f.arrays, p.1.size ≤ 9223372036854775807) (hal : f.arrays.length ≤ 9223372036854775807) (hbl : f.blocks.length ≤ 9223372036854775807) : FnAt w f aa ba := by
  obtain ⟨a, c, e1, h1⟩ := arrs_own h.arrs hal hs
  have hll : l.length = f.blocks.length := by have := congrArg List.length h.eq; simpa using this
  obtain ⟨b, d, e2, h2, _⟩ := h.blks.toRow.blks (by omega)
  injection e1 with e1
  injection e2 with e2
  subst e1 e2
  rw [h.eq] at h2
  exact ⟨h1, h2, hr, hn⟩
theorem CopyAt.setBox {b o : Nat} {u : Value} {arr : Array Value} {T : TypeId} (h : CopyAt N TA TB TI w f av bv l) (hb : w.heap[b]? = some (.cells arr T)) (hA : T ≠ TA) (hB : T ≠ TB) (hI : T ≠ TI) : CopyAt N TA TB TI (w.setCell ⟨b, o, none⟩ u) f av bv l := by
  have mv : ∀ {e : TypeId} {size : Nat} {v : Value} {n : Nat} {xs : List Value}, T ≠ e → w.ownsRow N e size v n xs → (w.setCell ⟨b, o, none⟩ u).ownsRow N e size v n xs := fun hT hr =>
    ownsRow_move hr (fun k hk _ => Below.heap_setCell _ _ _ _ (by rintro rfl; exact ownsRow_ne hr hb hT hk))
  exact { h with arrs := mv hA h.arrs, blks := { h.blks with row := mv hB h.blks.row, code := fun p hp => mv hI (h.blks.code p hp) } }
end
end Go.Proofs.YtkpdngfkdmllkaaDoor

/-
  Maps from strings to values, made by the call itself: what they hold, as a function; stores of any key, deletes. No program is named here.
-/
namespace Go.Proofs.YtkpdngfkdmllkaaDoor
set_option linter.unusedVariables false
set_option linter.unusedSimpArgs false
open Go.RowKit Go.Maps

/-- block b is a map that holds what f says (at most n entries) -/
def FMap (P : Program) (k : TypeId) (w : World) (b n : Nat) (f : ByteArray → Option Value) : Prop :=
  ∃ D : DataW Value, w.ownsMap P k heldElem b n D ∧ ∀ s : ByteArray, s.size ≤ maxLen → ∀ z, D.atKey (.string s.data.toList) z = ((f s).map DataW.held).getD z
/-- a function turned at one name -/
def upd {α : Type} (f : ByteArray → Option α) (s : ByteArray) (v : Option α) : ByteArray → Option α := fun t => if t = s then v else f t
theorem upd_same {α : Type} (f : ByteArray → Option α) (s : ByteArray) (v : Option α) : upd f s v s = v := if_pos rfl
theorem upd_other {α : Type} (f : ByteArray → Option α) {s t : ByteArray} (v : Option α) (h : t ≠ s) : upd f s v t = f t := if_neg h
theorem FMap.made (P : Program) (k : TypeId) (w : World) : FMap P k (w.alloc (.map #[] 0)) w.heap.size 0 (fun _ => none) :=
  ⟨.map [], World.ownsMap_made w P k heldElem, fun _ _ _ => rfl⟩
section
variable {P : Program} {k e t : TypeId} {w w' : World} {b n : Nat} {f : ByteArray → Option Value}
theorem FMap.lt (h : FMap P k w b n f) : b < w.heap.size := h.choose_spec.1.lt
theorem FMap.move (h : FMap P k w b n f) (hb : w'.heap[b]? = w.heap[b]?) : FMap P k w' b n f := by
  obtain ⟨D, ⟨es, clock, h1, h2⟩, h3⟩ := h
  exact ⟨D, ⟨es, clock, hb.trans h1, h2⟩, h3⟩
theorem FMap.below (h : FMap P k w b n f) (hb : Below w.heap.size w w') : FMap P k w' b n f := h.move (hb.block b h.lt)
theorem FMap.mono {n' : Nat} (h : FMap P k w b n f) (hn : n ≤ n') : FMap P k w b n' f := by
  obtain ⟨D, h1, h2⟩ := h
  exact ⟨D, h1.mono hn, h2⟩
theorem FMap.obj (h : FMap P k w b n f) : ∃ es clock, w.heap[b]? = some (.map es clock) := by
  obtain ⟨D, ⟨es, clock, h1, h2⟩, h3⟩ := h
  exact ⟨es, clock, h1⟩
theorem FMap.run (hk : P.underlying k = some .string) (ht : P.underlying t = some (.map k e)) {z : Value} (hz : (zeroValue e).run P w = .ok z w)
    (hown : FMap P k w b n f) {s : ByteArray} (hs : s.size ≤ maxLen) : (Instr.lookup t (.map (some b)) (.string s) false).run P w = .ok ((f s).getD z) w := by
  obtain ⟨D, hD, hat⟩ := hown
  have hat := hat s hs
  obtain ⟨v, ps, hrun, hv⟩ := hD.lookup (string_keyed hk) ht hz (zd := .held z) (zp := []) rfl (WideMaps.keyOf_string_mk hk hs)
  have hv1 : DataW.held v = D.atKey (.string s.data.toList) (.held z) := by
    have := Option.some.inj hv
    exact congrArg Prod.fst this
  rw [hat] at hv1
  rw [hrun]
  cases hl : f s with
  | none => rw [hl] at hv1; simp at hv1; rw [hv1]; rfl
  | some q => rw [hl] at hv1; simp at hv1; rw [hv1]; rfl
theorem FMap.run_ok (hk : P.underlying k = some .string) (ht : P.underlying t = some (.map k e)) {z : Value} (hz : (zeroValue e).run P w = .ok z w)
    (hown : FMap P k w b n f) {s : ByteArray} (hs : s.size ≤ maxLen) : (Instr.lookup t (.map (some b)) (.string s) true).run P w = .ok (.tuple #[(f s).getD z, .bool (f s).isSome]) w := by
  obtain ⟨D, hD, hat⟩ := hown
  have hat := hat s hs
  obtain ⟨v, ps, hrun, hv⟩ := hD.look_ok (string_keyed hk) ht hz (zd := .held z) (zp := []) rfl (WideMaps.keyOf_string_mk hk hs)
  have hv1 : DataW.held v = D.atKey (.string s.data.toList) (.held z) := by
    have := Option.some.inj hv
    exact congrArg Prod.fst this
  rw [hat] at hv1
  rw [hrun, has_look hat]
  cases hl : f s with
  | none => rw [hl] at hv1; simp at hv1; rw [hv1]; rfl
  | some q => rw [hl] at hv1; simp at hv1; rw [hv1]; rfl
/-- a store -/
theorem FMap.store (hk : P.underlying k = some .string) (ht : P.underlying t = some (.map k e))
    (hown : FMap P k w b n f) {s : ByteArray} (hs : s.size ≤ maxLen) (hn : n < maxLen) (v : Value) :
    ∃ w', (Instr.mapUpdate t (.map (some b)) (.string s) v).run P w = .ok () w' ∧ FMap P k w' b (n + 1) (upd f s (some v)) ∧ w.grownBy w' (some b) := by
  obtain ⟨D, hD, hat⟩ := hown
  obtain ⟨w', h1, h2, h3⟩ := hD.update (val := v) (string_keyed hk) ht hn (WideMaps.keyOf_string_mk hk hs) rfl
  refine ⟨w', h1, ⟨_, h2, fun u hu z => ?_⟩, h3⟩
  by_cases he : u = s
  · subst he
    rw [Maps.atKey_put_same hD.isMap (show WideAt.IsKeyLit (.string u.data.toList) from trivial), upd_same]
    rfl
  · rw [Maps.atKey_put_other (lit_ne he), upd_other _ _ he]
    exact hat u hu z
/-- a delete -/
theorem FMap.drop (hk : P.underlying k = some .string) (ht : P.underlying t = some (.map k e))
    (hown : FMap P k w b n f) {s : ByteArray} (hs : s.size ≤ maxLen) (ty : TypeId) :
    ∃ w', (Builtin.delete_ #[t, k] ty #[.map (some b), .string s]).run P w = .ok (.tuple #[]) w' ∧ FMap P k w' b n (upd f s none) ∧ w.grownBy w' (some b) := by
  obtain ⟨D, hD, hat⟩ := hown
  obtain ⟨w', h1, h2, h3⟩ := hD.drop (string_keyed hk) ht (WideMaps.keyOf_string_mk hk hs) ty
  refine ⟨w', h1, ⟨_, h2, fun u hu z => ?_⟩, h3.grown⟩
  by_cases he : u = s
  · subst he
    rw [Maps.atKey_del_same, upd_same]
    rfl
  · rw [Maps.atKey_del_other (lit_ne he), upd_other _ _ he]
    exact hat u hu z
end
section
variable {P : Program} (w : World) {ops : Array Oper} {rest : List Oper} {o : Oper} {a : Act} {Q : Exit → Act → World → Prop}
theorem wpList_fstore (hg : o.guard = none) (m x v : Operand) (t : TypeId) (hop : o.op = Op.mapUpdate t m x v)
    (k e : TypeId) (hk : P.underlying k = some .string) (ht : P.underlying t = some (.map k e)) (b n : Nat) (f : ByteArray → Option Value)
    (hm : a.eval m = .map (some b)) (hown : FMap P k w b n f) (s : ByteArray) (val : Value) (hx : a.eval x = .string s) (hv : a.eval v = val) (hs : s.size ≤ maxLen) (hn : n < maxLen)
    (hK : ∀ w', FMap P k w' b (n + 1) (upd f s (some val)) → w.grownBy w' (some b) → wpList P ops Q rest (a.put o.dst undef) w') :
    wpList P ops Q (o :: rest) a w := by
  refine wpList_plain hg fun K' hK' => ?_
  obtain ⟨w', hrun, r1, r2⟩ := hown.store hk ht hs hn val
  unfold Oper.wp
  simp [execOp, hop, hm, hx, hv, hrun, Result.andThen]
  exact hK' _ _ (hK w' r1 r2)
end
end Go.Proofs.YtkpdngfkdmllkaaDoor

/-
  What the translation of a task is (package lower), plainly: code of expressions, blocks of statements. No program is named here.
-/
namespace Go.Proofs.YtkpdngfkdmllkaaDoor
set_option linter.unusedVariables false
set_option linter.unusedSimpArgs false
open Go.RowKit

/-- lengths of arrays and objects, which names are objects -/
structure LEnv where
  len : ByteArray → Int
  sh : ByteArray → Bool
/-- the registers of the visible variables -/
abbrev VM := ByteArray → Option Nat
def VM.reg (V : VM) (s : ByteArray) : Int := ((V s).getD 0 : Nat)
abbrev insB (op d x y imm : Int) (s : ByteArray) : Ins := ⟨op, d, x, y, imm, s⟩
abbrev noB : ByteArray := ⟨#[]⟩
/-- the code of an expression, the registers behind it, the register with its value -/
structure LE where
  code : List Ins
  regs : Nat
  r : Int
def lowB (E : LEnv) (V : VM) (k n : Int) (s : ByteArray) (f0 f1 : Nat → LE) (R : Nat) : LE :=
  if k = 1 then ⟨[insB 1 R 0 0 n noB], R + 1, R⟩
  else if k = 2 then ⟨[], R, V.reg s⟩
  else if k = 3 then ⟨(f0 R).code ++ [insB 8 0 (f0 R).r 0 (E.len s) noB, insB (if E.sh s then 6 else 4) (f0 R).regs (f0 R).r 0 0 s], (f0 R).regs + 1, (f0 R).regs⟩
  else if k = 4 then ⟨(f0 R).code ++ [insB 1 (f0 R).regs 0 0 0 noB, insB 3 ((f0 R).regs + 1 : Nat) (f0 R).regs (f0 R).r 7 noB], (f0 R).regs + 2, ((f0 R).regs + 1 : Nat)⟩
  else if k = 5 then ⟨(f0 R).code ++ [insB 1 (f0 R).regs 0 0 0 noB, insB 3 ((f0 R).regs + 1 : Nat) (f0 R).r (f0 R).regs 16 noB], (f0 R).regs + 2, ((f0 R).regs + 1 : Nat)⟩
  else ⟨(f0 R).code ++ (f1 (f0 R).regs).code ++ [insB 3 (f1 (f0 R).regs).regs (f0 R).r (f1 (f0 R).regs).r k noB], (f1 (f0 R).regs).regs + 1, (f1 (f0 R).regs).regs⟩
def Tree.lowE (E : LEnv) (V : VM) : Tree → Nat → LE
  | .node k n s l kid => lowB E V k n s (fun R => if h : 0 < l then lowE E V (kid ⟨0, h⟩) R else ⟨[], R, 0⟩) (fun R => if h : 1 < l then lowE E V (kid ⟨1, h⟩) R else ⟨[], R, 0⟩)
theorem Tree.lowE_eq (E : LEnv) (V : VM) (t : Tree) (R : Nat) : t.lowE E V R = lowB E V t.kind t.num t.name (fun R => if 0 < t.len then (t.kid 0).lowE E V R else ⟨[], R, 0⟩) (fun R => if 1 < t.len then (t.kid 1).lowE E V R else ⟨[], R, 0⟩) R := by
  cases t with
  | node k n s l kid =>
    rw [Tree.lowE]
    show lowB E V k n s _ _ R = lowB E V k n s _ _ R
    congr 1
    · funext R
      by_cases h : 0 < l
      · rw [dif_pos h, if_pos (show 0 < (Tree.node k n s l kid).len from h), Tree.kid_node h]
      · rw [dif_neg h, if_neg (show ¬ 0 < (Tree.node k n s l kid).len from h)]
    · funext R
      by_cases h : 1 < l
      · rw [dif_pos h, if_pos (show 1 < (Tree.node k n s l kid).len from h), Tree.kid_node h]
      · rw [dif_neg h, if_neg (show ¬ 1 < (Tree.node k n s l kid).len from h)]
/-- blocks that are complete, the code of the block at the end, registers, visible variables -/
structure LS where
  done : List Blk
  code : List Ins
  regs : Nat
  vars : VM
/-- how a statement is translated: at block k, behind code c -/
abbrev LF := Nat → List Ins → Nat → VM → LS
/-- behind another -/
def LS.next (k : Nat) (s : LS) (f : LF) : LS :=
  let t := f (k + s.done.length) s.code s.regs s.vars
  { t with done := s.done ++ t.done }
def seqL (f : Nat → LF) (k : Nat) (c : List Ins) (R : Nat) (V : VM) : Nat → LS
  | 0 => ⟨[], c, R, V⟩
  | n + 1 => (seqL f k c R V n).next k (f n)
/-- a block that jumps -/
abbrev jmpB (c : List Ins) (tg : Nat) : Blk := ⟨c, 1, 0, tg, 0⟩
abbrev opnB (c : List Ins) : Blk := ⟨c, 0, 0, 0, 0⟩
def ifL (e : LE) (b1 b2 : LF) (k : Nat) (c : List Ins) (V : VM) : LS :=
  let s1 := b1 (k + 1) [] e.regs V
  let k2 := k + 1 + s1.done.length + 1
  let s2 := b2 k2 [] s1.regs s1.vars
  let k3 := k2 + s2.done.length + 1
  ⟨(⟨c ++ e.code, 2, e.r, (k + 1 : Nat), k2⟩ :: s1.done) ++ (jmpB s1.code k3 :: s2.done) ++ [jmpB s2.code k3], [], s2.regs, s2.vars⟩
/-- a loop: its header h, its body b, behind registers R at depth d -/
def loopL (lim : Int) (d : Nat) (h : LE) (enter : VM → VM) (b : LF) (k : Nat) (c : List Ins) (V : VM) : LS :=
  let s := b (k + 2) [insB 16 0 d 0 lim noB] h.regs (enter V)
  let k3 := k + 2 + s.done.length + 1
  ⟨[jmpB (c ++ [insB 13 0 0 0 d noB]) (k + 1), ⟨h.code, 2, h.r, (k + 2 : Nat), k3⟩] ++ s.done ++ [jmpB (s.code ++ [insB 14 0 0 0 d noB]) (k + 1)], [], s.regs, s.vars⟩
/-- the header of a For statement -/
def forH (n : Int) (d v : Nat) : LE := ⟨[insB 15 v 0 0 d noB, insB 1 (v + 1 : Nat) 0 0 n noB, insB 3 (v + 2 : Nat) v (v + 1 : Nat) 18 noB], v + 3, (v + 2 : Nat)⟩
def stoB (E : LEnv) (s : ByteArray) (i v : Int) : Ins := insB (if E.sh s then 7 else 5) 0 i v 0 s
/-- a statement out of its parts -/
def lowS (E : LEnv) (kd n : Int) (nm : ByteArray) (p : Tree) (e : Nat → VM → Nat → LE) (b : Nat → Nat → LF) (d : Nat) : LF := fun k c R V =>
  if kd = 40 then
    (if p.kind = 2 then ⟨[], c ++ (e 1 V R).code ++ [insB 2 (V.reg p.name) (e 1 V R).r 0 0 noB], (e 1 V R).regs, V⟩
     else
      let e0 := (p.kid 0).lowE E V R
      let e1 := e 1 V e0.regs
      ⟨[], c ++ e0.code ++ e1.code ++ [insB 8 0 e0.r 0 (E.len p.name) noB, stoB E p.name e0.r e1.r], e1.regs, V⟩)
  else if kd = 41 then ifL (e 0 V R) (b 1 d) (b 2 d) k c V
  else if kd = 42 then
    let s := loopL n d (forH n d R) (fun V => upd V nm (some R)) (b 0 (d + 1)) k c V
    { s with vars := upd s.vars nm none }
  else if kd = 43 then loopL n d (e 0 V R) (fun V => V) (b 1 (d + 1)) k c V
  else if kd = 44 then
    (if p.kind = 2 then ⟨[], c ++ [insB 9 (V.reg p.name) 0 0 n noB], R, V⟩
     else
      let e0 := (p.kid 0).lowE E V R
      ⟨[], c ++ e0.code ++ [insB 8 0 e0.r 0 (E.len p.name) noB, insB 9 e0.regs 0 0 n noB, stoB E p.name e0.r e0.regs], e0.regs + 1, V⟩)
  else if kd = 45 then ⟨[], c ++ (e 0 V R).code ++ [insB 10 0 (e 0 V R).r 0 n noB], (e 0 V R).regs, V⟩
  else if kd = 46 then
    let s := b 0 d k (c ++ [insB 11 0 0 0 0 nm]) R V
    { s with code := s.code ++ [insB 12 0 0 0 0 nm] }
  else ⟨[], c, R, V⟩
def Tree.low (E : LEnv) : Tree → Nat → LF
  | .node kd n nm l kid => fun d k c R V =>
    if kd = 47 then seqL (fun i => if h : i < l then low E (kid ⟨i, h⟩) d else fun _ c R V => ⟨[], c, R, V⟩) k c R V l
    else lowS E kd n nm (if h : 0 < l then kid ⟨0, h⟩ else .leaf 0 0 ByteArray.empty) (fun i V R => if h : i < l then (kid ⟨i, h⟩).lowE E V R else ⟨[], R, 0⟩)
      (fun i d => if h : i < l then low E (kid ⟨i, h⟩) d else fun _ c R V => ⟨[], c, R, V⟩) d k c R V
def kidLE (E : LEnv) (t : Tree) (i : Nat) (V : VM) (R : Nat) : LE := if i < t.len then (t.kid i).lowE E V R else ⟨[], R, 0⟩
def kidL (E : LEnv) (t : Tree) (i : Nat) (d : Nat) : LF := if i < t.len then (t.kid i).low E d else fun _ c R V => ⟨[], c, R, V⟩
theorem Tree.low_eq (E : LEnv) (t : Tree) (d k : Nat) (c : List Ins) (R : Nat) (V : VM) : t.low E d k c R V = if t.kind = 47 then seqL (fun i => kidL E t i d) k c R V t.len else lowS E t.kind t.num t.name (t.kid 0) (kidLE E t) (kidL E t) d k c R V := by
  cases t with
  | node kd n nm l kid =>
    rw [Tree.low]
    have e1 : ∀ (i d : Nat), (if h : i < l then Tree.low E (kid ⟨i, h⟩) d else fun _ c R V => (⟨[], c, R, V⟩ : LS)) = kidL E (.node kd n nm l kid) i d := by
      intro i d
      unfold kidL
      by_cases h : i < l
      · rw [dif_pos h, if_pos (show i < (Tree.node kd n nm l kid).len from h), Tree.kid_node h]
      · rw [dif_neg h, if_neg (show ¬ i < (Tree.node kd n nm l kid).len from h)]
    have e2 : (fun (i : Nat) (V : VM) (R : Nat) => if h : i < l then (kid ⟨i, h⟩).lowE E V R else (⟨[], R, 0⟩ : LE)) = kidLE E (.node kd n nm l kid) := by
      funext i V R
      unfold kidLE
      by_cases h : i < l
      · rw [dif_pos h, if_pos (show i < (Tree.node kd n nm l kid).len from h), Tree.kid_node h]
      · rw [dif_neg h, if_neg (show ¬ i < (Tree.node kd n nm l kid).len from h)]
    simp only [e1]
    rw [e2]
    rfl
end Go.Proofs.YtkpdngfkdmllkaaDoor
