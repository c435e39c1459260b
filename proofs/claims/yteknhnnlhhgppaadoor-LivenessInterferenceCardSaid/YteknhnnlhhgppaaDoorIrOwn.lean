/-
  A function whose rows are the call's own: arrays, blocks, the code of each block (layer 17). No program is named here.
-/
import Derived.Test.YteknhnnlhhgppaaDoorMg5
import Derived.Test.YteknhnnlhhgppaaDoorMg3
namespace Go.Proofs.YteknhnnlhhgppaaDoor
set_option linter.unusedVariables false
set_option linter.unusedSimpArgs false
open Go.RowKit
set_option maxRecDepth 100000

theorem own_addr_add (b off j : Nat) : (⟨b, off, none⟩ : Addr).add j = ⟨b, off + j, none⟩ := by
  unfold Addr.add
  by_cases h0 : j = 0 <;> simp [h0]
/-- cells of a flat row -/
theorem src_flat {α : Type} {f : α → List Value} {n : Nat} (hf : ∀ x, (f x).length = n) (hn : 0 < n) {w : World} {A : Option Addr} {l : List α}
    (h : l.length = 0 ∨ ∃ b off, A = some ⟨b, off, none⟩ ∧ ∀ k x, l[k]? = some x → ∀ o, o < n → w.cell? ⟨b, off + k * n + o, none⟩ = (f x)[o]?) : Src w A l.length n (l.flatMap f) := by
  refine ⟨flat_len hf l, ?_⟩
  rcases h with h | ⟨b, off, hA, hc⟩
  · exact .inl h
  · refine .inr ⟨_, hA, fun j u hu => ?_⟩
    have hj : j < l.length * n := by rw [← flat_len hf l]; exact (List.getElem?_eq_some_iff.1 hu).1
    have hk : j / n < l.length := Nat.div_lt_of_lt_mul (by rw [Nat.mul_comm]; exact hj)
    have ho : j % n < n := Nat.mod_lt _ hn
    have e : j / n * n + j % n = j := by rw [Nat.mul_comm]; exact Nat.div_add_mod j n
    have hx := List.getElem?_eq_getElem hk
    have h1 := hc _ _ hx _ ho
    have h2 := flat_get hf hx ho
    rw [e, hu] at h2
    rw [own_addr_add, ← e, ← Nat.add_assoc, h1, ← h2]
/-! ### arrays -/
def arrOne (p : ByteArray × Int) : List Value := [.string p.1, .int .i64 p.2]
theorem arrOne_len (p : ByteArray × Int) : (arrOne p).length = 2 := rfl
theorem arrOne_one (l : List (ByteArray × Int)) : ∀ u ∈ l.flatMap arrOne, u.oneCell' = true := by
  intro u hu
  obtain ⟨p, _, hp⟩ := List.mem_flatMap.1 hu
  simp [arrOne] at hp
  rcases hp with rfl | rfl <;> rfl
theorem arrs_src {w : World} {a : Option Addr} {l : List (ByteArray × Int)} (h : ArrsAt w a l) : Src w a l.length 2 (l.flatMap arrOne) := by
  refine src_flat arrOne_len (by omega) ?_
  rcases h.at_ with h0 | ⟨b, off, ha, hc⟩
  · exact .inl h0
  · refine .inr ⟨b, off, ha, fun k x hx o ho => ?_⟩
    obtain ⟨h1, h2⟩ := hc k x hx
    match o, ho with
    | 0, _ => exact h1
    | 1, _ => exact h2
theorem arrs_own {w : World} {N : Nat} {T : TypeId} {v : Value} {l : List (ByteArray × Int)} (h : w.ownsRow N T 2 v l.length (l.flatMap arrOne)) (hf : l.length ≤ 9223372036854775807) (hs : ∀ p ∈ l, p.1.size ≤ 9223372036854775807) :
    ∃ a c, v = .slice a l.length c ∧ ArrsAt w a l := by
  rcases ownsRow_form h with ⟨rfl, h0⟩ | ⟨g, cap, rfl, _, _, _⟩
  · exact ⟨none, 0, by rw [h0], hf, hs, .inl h0⟩
  · refine ⟨some ⟨g, 0, none⟩, cap, rfl, hf, hs, .inr ⟨g, 0, rfl, fun k p hp => ?_⟩⟩
    have key : ∀ o u, o < 2 → (arrOne p)[o]? = some u → w.cell? ⟨g, k * 2 + o, none⟩ = some u := fun o u ho hu => own_cell h ((flat_get arrOne_len hp ho).trans hu)
    rw [Nat.zero_add]
    exact ⟨key 0 _ (by omega) rfl, key 1 _ (by omega) rfl⟩
theorem code_src {w : World} {a : Option Addr} {l : List Ins} (h : CodeAt w a l) : Src w a l.length 6 (codeCells l) := by
  refine src_flat Ins.cells_len (by omega) ?_
  rcases h.at_ with h0 | ⟨b, off, ha, hc⟩
  · exact .inl h0
  · refine .inr ⟨b, off, ha, fun k x hx o ho => ?_⟩
    obtain ⟨h0, h1, h2, h3, h4, h5⟩ := hc k x hx
    match o, ho with
    | 0, _ => exact h0
    | 1, _ => exact h1
    | 2, _ => exact h2
    | 3, _ => exact h3
    | 4, _ => exact h4
    | 5, _ => exact h5
theorem codeCells_one (l : List Ins) : ∀ u ∈ codeCells l, u.oneCell' = true := by
  intro u hu
  obtain ⟨p, _, hp⟩ := List.mem_flatMap.1 hu
  exact p.one u hp
/-- a block that holds something of another type is no row -/
theorem ownsRow_ne {w : World} {N : Nat} {e T : TypeId} {size : Nat} {v : Value} {n b : Nat} {xs : List Value} {arr : Array Value} (h : w.ownsRow N e size v n xs) (hb : w.heap[b]? = some (.cells arr T)) (hT : T ≠ e) : v.ownBlock ≠ some b := by
  intro hv
  rcases h.2 with ⟨rfl, _⟩ | ⟨g, cap, cur, rfl, _, hc, _⟩
  · cases hv
  · cases hv
    rw [hb] at hc
    injection hc with hc
    injection hc with _ e2
    exact hT e2
/-! ### blocks -/
def BlkP.code (p : BlkP) : Value := .slice p.a p.blk.code.length p.c
/-- blocks and their code in rows of the call's own -/
structure BlkOwn (N : Nat) (T E : TypeId) (w : World) (v : Value) (l : List BlkP) : Prop where
  row : w.ownsRow N T 5 v l.length (l.flatMap BlkP.cells)
  wf : ∀ p ∈ l, p.blk.Wf
  iwf : ∀ p ∈ l, ∀ i ∈ p.blk.code, i.Wf
  small : ∀ p ∈ l, p.blk.code.length ≤ 1000000
  code : ∀ p ∈ l, w.ownsRow N E 6 p.code p.blk.code.length (codeCells p.blk.code)
  apart : ∀ p ∈ l, p.code.ownBlock = none ∨ v.ownBlock ≠ p.code.ownBlock
  each : ∀ (i j : Nat) (p q : BlkP), l[i]? = some p → l[j]? = some q → i ≠ j → p.code.ownBlock = none ∨ p.code.ownBlock ≠ q.code.ownBlock
theorem BlkOwn.nil {N : Nat} {T E : TypeId} {w : World} : BlkOwn N T E w (.slice none 0 0) [] :=
  ⟨⟨rfl, .inl ⟨rfl, rfl⟩⟩, fun p hp => (by cases hp), fun p hp => (by cases hp), fun p hp => (by cases hp), fun p hp => (by cases hp), fun p hp => (by cases hp), fun i j p q hp => (by simp at hp)⟩
section
variable {N : Nat} {T E : TypeId} {w w' : World} {v : Value} {l : List BlkP}
theorem BlkOwn.keep (h : BlkOwn N T E w v l) (hb : Below w.heap.size w w') : BlkOwn N T E w' v l :=
  { h with row := ownsRow_below h.row hb, code := fun p hp => ownsRow_below (h.code p hp) hb }
theorem BlkOwn.move (h : BlkOwn N T E w v l) (hm : ∀ k, N ≤ k → k < w.heap.size → w'.heap[k]? = w.heap[k]?) : BlkOwn N T E w' v l :=
  { h with row := ownsRow_move h.row (fun k hk hl => hm k (ownsRow_lt h.row hk).1 hl), code := fun p hp => ownsRow_move (h.code p hp) (fun k hk hl => hm k (ownsRow_lt (h.code p hp) hk).1 hl) }
theorem BlkOwn.toRow (h : BlkOwn N T E w v l) : BlkRow N T w v l := by
  have key : ∀ p ∈ l, CodeAt w p.a p.blk.code ∧ LiesIn N w.heap.size p.a ∧ ∀ d, p.a = some d → p.code.ownBlock = some d.block := fun p hp => by
    obtain ⟨a, c, he, h1, h2, _, h4⟩ := code_own (h.code p hp) (h.iwf p hp) (Nat.le_trans (h.small p hp) (by omega))
    unfold BlkP.code at he
    injection he with e1 e2 e3
    subst e1 e3
    exact ⟨h1, h2, h4⟩
  refine ⟨h.row, h.wf, fun p hp => (key p hp).1, fun p hp => (key p hp).2.1, fun p hp d hd e => ?_⟩
  have hb := (key p hp).2.2 d hd
  rcases h.apart p hp with h1 | h1
  · rw [hb] at h1; cases h1
  · exact h1 (by rw [e, hb])
theorem BlkOwn.push {V w2 : World} {p : BlkP} {gb cap : Nat} (h : BlkOwn N T E w v l) (hN : N ≤ w.heap.size) (hB : Below w.heap.size w V) (hw : p.blk.Wf) (hi : ∀ i ∈ p.blk.code, i.Wf) (hs : p.blk.code.length ≤ 1000000) (hc : V.ownsRow w.heap.size E 6 p.code p.blk.code.length (codeCells p.blk.code))
    (hg : V.grownBy w2 v.ownBlock) (ho : w2.ownsRow N T 5 (.slice (some ⟨gb, 0, none⟩) (l.length + 1) cap) (l.length + 1) (l.flatMap BlkP.cells ++ p.cells)) (hp : v.ownBlock = some gb ∨ V.heap.size ≤ gb) :
    BlkOwn N T E w2 (.slice (some ⟨gb, 0, none⟩) (l.length + 1) cap) (l ++ [p]) := by
  have hVs := hB.size
  have hk : BlkOwn N T E V v l := h.keep hB
  have lo : ∀ q ∈ l, ∀ b, q.code.ownBlock = some b → b < w.heap.size := fun q hq b hb => (ownsRow_lt (h.code q hq) hb).2
  have hi' : ∀ b, p.code.ownBlock = some b → w.heap.size ≤ b ∧ b < V.heap.size := fun b hb => ownsRow_lt hc hb
  have hvb : ∀ b, v.ownBlock = some b → b < w.heap.size := fun b hb => (ownsRow_lt h.row hb).2
  have all : ∀ q ∈ l ++ [p], q.blk.Wf ∧ (∀ i ∈ q.blk.code, i.Wf) ∧ q.blk.code.length ≤ 1000000 ∧ V.ownsRow N E 6 q.code q.blk.code.length (codeCells q.blk.code) ∧ (q.code.ownBlock = none ∨ v.ownBlock ≠ q.code.ownBlock) := by
    intro q hq
    rcases List.mem_append.1 hq with hq | hq
    · exact ⟨hk.wf q hq, hk.iwf q hq, hk.small q hq, hk.code q hq, hk.apart q hq⟩
    · obtain rfl : q = p := by simpa using hq
      refine ⟨hw, hi, hs, ownsRow_base hc hN, ?_⟩
      cases hb : q.code.ownBlock with
      | none => exact .inl rfl
      | some b => exact .inr (fun e => by have := (hi' b hb).1; have := hvb b e; omega)
  refine ⟨by rw [List.length_append, flat_snoc]; exact ho, fun q hq => (all q hq).1, fun q hq => (all q hq).2.1, fun q hq => (all q hq).2.2.1, fun q hq => ?_, fun q hq => ?_, fun i j q r hq hr hij => ?_⟩
  · refine ownsRow_move (all q hq).2.2.2.1 (fun k hk hl => hg.block k hl (fun e => ?_))
    rcases (all q hq).2.2.2.2 with e1 | e1
    · rw [hk] at e1; cases e1
    · exact e1 (by rw [← e, hk])
  · cases hb : q.code.ownBlock with
    | none => exact .inl rfl
    | some b =>
      refine .inr (fun e => ?_)
      have e : gb = b := by injection e
      rcases hp with hp | hp
      · rcases (all q hq).2.2.2.2 with e1 | e1
        · rw [hb] at e1; cases e1
        · exact e1 (by rw [hp, hb, e])
      · have := (ownsRow_lt (all q hq).2.2.2.1 hb).2
        omega
  · have split : ∀ {k : Nat} {q : BlkP}, (l ++ [p])[k]? = some q → l[k]? = some q ∨ (k = l.length ∧ q = p) := by
      intro k q hq
      rcases Nat.lt_or_ge k l.length with hk | hk
      · rw [List.getElem?_append_left hk] at hq; exact .inl hq
      · rw [List.getElem?_append_right hk] at hq
        have hk0 : k - l.length = 0 := by
          rcases Nat.eq_zero_or_pos (k - l.length) with h0 | h0
          · exact h0
          · rw [List.getElem?_eq_none (by simp; omega)] at hq; cases hq
        rw [hk0] at hq
        exact .inr ⟨by omega, by simpa using hq.symm⟩
    rcases split hq with h1 | ⟨h1, e1⟩
    · rcases split hr with h2 | ⟨h2, e2⟩
      · exact h.each i j q r h1 h2 hij
      · cases hb : q.code.ownBlock with
        | none => exact .inl rfl
        | some b => exact .inr (fun e => by have := lo q (List.mem_of_getElem? h1) b hb; have := (hi' b (by rw [← e2]; exact e.symm)).1; omega)
    · rcases split hr with h2 | ⟨h2, e2⟩
      · cases hb : q.code.ownBlock with
        | none => exact .inl rfl
        | some b => exact .inr (fun e => by have := lo r (List.mem_of_getElem? h2) b e.symm; have := (hi' b (by rw [← e1]; exact hb)).1; omega)
      · omega
end
/-- a copy of a function: its rows are the call's own -/
structure CopyAt (N : Nat) (TA TB TI : TypeId) (w : World) (f : Fn) (av bv : Value) (l : List BlkP) : Prop where
  arrs : w.ownsRow N TA 2 av f.arrays.length (f.arrays.flatMap arrOne)
  blks : BlkOwn N TB TI w bv l
  eq : l.map (·.blk) = f.blocks
  apart : av.ownBlock = none ∨ av.ownBlock ≠ bv.ownBlock
  codes : ∀ p ∈ l, av.ownBlock = none ∨ av.ownBlock ≠ p.code.ownBlock
section
variable {N : Nat} {TA TB TI : TypeId} {w w' : World} {f : Fn} {av bv : Value} {l : List BlkP}
theorem CopyAt.keep (h : CopyAt N TA TB TI w f av bv l) (hb : Below w.heap.size w w') : CopyAt N TA TB TI w' f av bv l :=
  { h with arrs := ownsRow_below h.arrs hb, blks := h.blks.keep hb }
theorem CopyAt.move (h : CopyAt N TA TB TI w f av bv l) (hm : ∀ k, N ≤ k → k < w.heap.size → w'.heap[k]? = w.heap[k]?) : CopyAt N TA TB TI w' f av bv l :=
  { h with arrs := ownsRow_move h.arrs (fun k hk hl => hm k (ownsRow_lt h.arrs hk).1 hl), blks := h.blks.move hm }
theorem CopyAt.base {N' : Nat} (h : CopyAt N TA TB TI w f av bv l) (hN : N' ≤ N) : CopyAt N' TA TB TI w f av bv l :=
  { h with arrs := ownsRow_base h.arrs hN, blks := { h.blks with row := ownsRow_base h.blks.row hN, code := fun p hp => ownsRow_base (h.blks.code p hp) hN } }
theorem CopyAt.push {V w2 : World} {p : BlkP} {gb cap : Nat} (h : CopyAt N TA TB TI w f av bv l) (hN : N ≤ w.heap.size) (hB : Below w.heap.size w V) (hw : p.blk.Wf) (hi : ∀ i ∈ p.blk.code, i.Wf) (hs : p.blk.code.length ≤ 1000000) (hc : V.ownsRow w.heap.size TI 6 p.code p.blk.code.length (codeCells p.blk.code))
    (hg : V.grownBy w2 bv.ownBlock) (ho : w2.ownsRow N TB 5 (.slice (some ⟨gb, 0, none⟩) (l.length + 1) cap) (l.length + 1) (l.flatMap BlkP.cells ++ p.cells)) (hp : bv.ownBlock = some gb ∨ V.heap.size ≤ gb) :
    CopyAt N TA TB TI w2 { f with blocks := f.blocks ++ [p.blk] } av (.slice (some ⟨gb, 0, none⟩) (l.length + 1) cap) (l ++ [p]) := by
  have hVs := hB.size
  refine ⟨ownsRow_move h.arrs (fun k hk hl => ?_), h.blks.push hN hB hw hi hs hc hg ho hp, by rw [List.map_append, h.eq]; rfl, ?_, fun q hq => ?_⟩
  · refine (hg.block k (Nat.lt_of_lt_of_le hl hVs) (fun e => ?_)).trans (hB.block k hl)
    rcases h.apart with e1 | e1
    · rw [hk] at e1; cases e1
    · exact e1 (by rw [hk, e])
  · cases ha : av.ownBlock with
    | none => exact .inl rfl
    | some b =>
      refine .inr (fun e => ?_)
      have e : b = gb := by injection e
      rcases hp with hp | hp
      · rcases h.apart with e1 | e1
        · rw [ha] at e1; cases e1
        · exact e1 (by rw [ha, hp, e])
      · have := (ownsRow_lt h.arrs ha).2
        omega
  · rcases List.mem_append.1 hq with hq | hq
    · exact h.codes q hq
    · obtain rfl : q = p := by simpa using hq
      cases ha : av.ownBlock with
      | none => exact .inl rfl
      | some b => exact .inr (fun e => by have := (ownsRow_lt hc e.symm).1; have := (ownsRow_lt h.arrs ha).2; omega)
theorem CopyAt.fnAt {aa ba : Option Addr} {ac bc : Nat} (h : CopyAt N TA TB TI w f (.slice aa f.arrays.length ac) (.slice ba f.blocks.length bc) l) (hr : isI64 f.regs) (hn : f.name.size ≤ 9223372036854775807) (hs : ∀ p ∈ f.arrays, p.1.size ≤ 9223372036854775807) (hal : f.arrays.length ≤ 9223372036854775807) (hbl : f.blocks.length ≤ 9223372036854775807) : FnAt w f aa ba := by
  obtain ⟨a, c, e1, h1⟩ := arrs_own h.arrs hal hs
  have hll : l.length = f.blocks.length := by have := congrArg List.length h.eq; simpa using this
  obtain ⟨b, d, e2, h2, _⟩ := h.blks.toRow.blks (by omega)
  injection e1 with e1
  injection e2 with e2
  subst e1 e2
  rw [h.eq] at h2
  exact ⟨h1, h2, hr, hn⟩
theorem CopyAt.setBox {b o : Nat} {u : Value} {arr : Array Value} {T : TypeId} (h : CopyAt N TA TB TI w f av bv l) (hb : w.heap[b]? = some (.cells arr T)) (hA : T ≠ TA) (hB : T ≠ TB) (hI : T ≠ TI) : CopyAt N TA TB TI (w.setCell ⟨b, o, none⟩ u) f av bv l := by
  have mv : ∀ {e : TypeId} {size : Nat} {v : Value} {n : Nat} {xs : List Value}, T ≠ e → w.ownsRow N e size v n xs → (w.setCell ⟨b, o, none⟩ u).ownsRow N e size v n xs := fun hT hr =>
    ownsRow_move hr (fun k hk _ => Below.heap_setCell _ _ _ _ (by rintro rfl; exact ownsRow_ne hr hb hT hk))
  exact { h with arrs := mv hA h.arrs, blks := { h.blks with row := mv hB h.blks.row, code := fun p hp => mv hI (h.blks.code p hp) } }
end
end Go.Proofs.YteknhnnlhhgppaaDoor
