/-
  Mg19: several texts in one (IrOwn, IrSet).
-/
import Derived.Test.YteknhnnlhhgppaaDoorMg16
import Derived.Test.YteknhnnlhhgppaaDoorMg18
/-
  A function whose rows are the call's own: arrays, blocks, the code of each block (layer 17). No program is named here.
-/
namespace Go.Proofs.YteknhnnlhhgppaaDoor
set_option linter.unusedVariables false
set_option linter.unusedSimpArgs false
open Go.RowKit
set_option maxRecDepth 100000

theorem own_addr_add (b off j : Nat) : (⟨b, off, none⟩ : Addr).add j = ⟨b, off + j, none⟩ := by
  unfold Addr.add
  by_cases h0 : j = 0 <;> simp [h0]
/-- cells of a flat row -/
theorem src_flat {α : Type} {f : α → List Value} {n : Nat} (hf : ∀ x, (f x).length = n) (hn : 0 < n) {w : World} {A : Option Addr} {l : List α}
    (h : l.length = 0 ∨ ∃ b off, A = some ⟨b, off, none⟩ ∧ ∀ k x, l[k]? = some x → ∀ o, o < n → w.cell? ⟨b, off + k * n + o, none⟩ = (f x)[o]?) : Src w A l.length n (l.flatMap f) := by
  refine ⟨flat_len hf l, ?_⟩
  rcases h with h | ⟨b, off, hA, hc⟩
  · exact .inl h
  · refine .inr ⟨_, hA, fun j u hu => ?_⟩
    have hj : j < l.length * n := by rw [← flat_len hf l]; exact (List.getElem?_eq_some_iff.1 hu).1
    have hk : j / n < l.length := Nat.div_lt_of_lt_mul (by rw [Nat.mul_comm]; exact hj)
    have ho : j % n < n := Nat.mod_lt _ hn
    have e : j / n * n + j % n = j := by rw [Nat.mul_comm]; exact Nat.div_add_mod j n
    have hx := List.getElem?_eq_getElem hk
    have h1 := hc _ _ hx _ ho
    have h2 := flat_get hf hx ho
    rw [e, hu] at h2
    rw [own_addr_add, ← e, ← Nat.add_assoc, h1, ← h2]
/-! ### arrays -/
def arrOne (p : ByteArray × Int) : List Value := [.string p.1, .int .i64 p.2]
theorem arrOne_len (p : ByteArray × Int) : (arrOne p).length = 2 := rfl
theorem arrOne_one (l : List (ByteArray × Int)) : ∀ u ∈ l.flatMap arrOne, u.oneCell' = true := by
  intro u hu
  obtain ⟨p, _, hp⟩ := List.mem_flatMap.1 hu
  simp [arrOne] at hp
  rcases hp with rfl | rfl <;> rfl
theorem arrs_src {w : World} {a : Option Addr} {l : List (ByteArray × Int)} (h : ArrsAt w a l) : Src w a l.length 2 (l.flatMap arrOne) := by
  refine src_flat arrOne_len (by omega) ?_
  rcases h.at_ with h0 | ⟨b, off, ha, hc⟩
  · exact .inl h0
  · refine .inr ⟨b, off, ha, fun k x hx o ho => ?_⟩
    obtain ⟨h1, h2⟩ := hc k x hx
    match o, ho with
    | 0, _ => exact h1
    | 1, _ => exact h2
theorem arrs_own {w : World} {N : Nat} {T : TypeId} {v : Value} {l : List (ByteArray × Int)} (h : w.ownsRow N T 2 v l.length (l.flatMap arrOne)) (hf : l.length ≤ 9223372036854775807) (hs : ∀ p ∈ l, p.1.size ≤ 9223372036854775807) :
    ∃ a c, v = .slice a l.length c ∧ ArrsAt w a l := by
  rcases ownsRow_form h with ⟨rfl, h0⟩ | ⟨g, cap, rfl, _, _, _⟩
  · exact ⟨none, 0, by rw [h0], hf, hs, .inl h0⟩
  · refine ⟨some ⟨g, 0, none⟩, cap, rfl, hf, hs, .inr ⟨g, 0, rfl, fun k p hp => ?_⟩⟩
    have key : ∀ o u, o < 2 → (arrOne p)[o]? = some u → w.cell? ⟨g, k * 2 + o, none⟩ = some u := fun o u ho hu => own_cell h ((flat_get arrOne_len hp ho).trans hu)
    rw [Nat.zero_add]
    exact ⟨key 0 _ (by omega) rfl, key 1 _ (by omega) rfl⟩
theorem code_src {w : World} {a : Option Addr} {l : List Ins} (h : CodeAt w a l) : Src w a l.length 6 (codeCells l) := by
  refine src_flat Ins.cells_len (by omega) ?_
  rcases h.at_ with h0 | ⟨b, off, ha, hc⟩
  · exact .inl h0
  · refine .inr ⟨b, off, ha, fun k x hx o ho => ?_⟩
    obtain ⟨h0, h1, h2, h3, h4, h5⟩ := hc k x hx
    match o, ho with
    | 0, _ => exact h0
    | 1, _ => exact h1
    | 2, _ => exact h2
    | 3, _ => exact h3
    | 4, _ => exact h4
    | 5, _ => exact h5
theorem codeCells_one (l : List Ins) : ∀ u ∈ codeCells l, u.oneCell' = true := by
  intro u hu
  obtain ⟨p, _, hp⟩ := List.mem_flatMap.1 hu
  exact p.one u hp
/-- a block that holds something of another type is no row -/
theorem ownsRow_ne {w : World} {N : Nat} {e T : TypeId} {size : Nat} {v : Value} {n b : Nat} {xs : List Value} {arr : Array Value} (h : w.ownsRow N e size v n xs) (hb : w.heap[b]? = some (.cells arr T)) (hT : T ≠ e) : v.ownBlock ≠ some b := by
  intro hv
  rcases h.2 with ⟨rfl, _⟩ | ⟨g, cap, cur, rfl, _, hc, _⟩
  · cases hv
  · cases hv
    rw [hb] at hc
    injection hc with hc
    injection hc with _ e2
    exact hT e2
/-! ### blocks -/
def BlkP.code (p : BlkP) : Value := .slice p.a p.blk.code.length p.c
/-- blocks and their code in rows of the call's own -/
structure BlkOwn (N : Nat) (T E : TypeId) (w : World) (v : Value) (l : List BlkP) : Prop where
  row : w.ownsRow N T 5 v l.length (l.flatMap BlkP.cells)
  wf : ∀ p ∈ l, p.blk.Wf
  iwf : ∀ p ∈ l, ∀ i ∈ p.blk.code, i.Wf
  small : ∀ p ∈ l, p.blk.code.length ≤ 1000000
  code : ∀ p ∈ l, w.ownsRow N E 6 p.code p.blk.code.length (codeCells p.blk.code)
  apart : ∀ p ∈ l, p.code.ownBlock = none ∨ v.ownBlock ≠ p.code.ownBlock
  each : ∀ (i j : Nat) (p q : BlkP), l[i]? = some p → l[j]? = some q → i ≠ j → p.code.ownBlock = none ∨ p.code.ownBlock ≠ q.code.ownBlock
theorem BlkOwn.nil {N : Nat} {T E : TypeId} {w : World} : BlkOwn N T E w (.slice none 0 0) [] :=
  ⟨⟨rfl, .inl ⟨rfl, rfl⟩⟩, fun p hp => (by cases hp), fun p hp => (by cases hp), fun p hp => (by cases hp), fun p hp => (by cases hp), fun p hp => (by cases hp), fun i j p q hp => (by simp at hp)⟩
section
variable {N : Nat} {T E : TypeId} {w w' : World} {v : Value} {l : List BlkP}
theorem BlkOwn.keep (h : BlkOwn N T E w v l) (hb : Below w.heap.size w w') : BlkOwn N T E w' v l :=
  { h with row := ownsRow_below h.row hb, code := fun p hp => ownsRow_below (h.code p hp) hb }
theorem BlkOwn.move (h : BlkOwn N T E w v l) (hm : ∀ k, N ≤ k → k < w.heap.size → w'.heap[k]? = w.heap[k]?) : BlkOwn N T E w' v l :=
  { h with row := ownsRow_move h.row (fun k hk hl => hm k (ownsRow_lt h.row hk).1 hl), code := fun p hp => ownsRow_move (h.code p hp) (fun k hk hl => hm k (ownsRow_lt (h.code p hp) hk).1 hl) }
theorem BlkOwn.toRow (h : BlkOwn N T E w v l) : BlkRow N T w v l := by
  have key : ∀ p ∈ l, CodeAt w p.a p.blk.code ∧ LiesIn N w.heap.size p.a ∧ ∀ d, p.a = some d → p.code.ownBlock = some d.block := fun p hp => by
    obtain ⟨a, c, he, h1, h2, _, h4⟩ := code_own (h.code p hp) (h.iwf p hp) (Nat.le_trans (h.small p hp) (by omega))
    unfold BlkP.code at he
    injection he with e1 e2 e3
    subst e1 e3
    exact ⟨h1, h2, h4⟩
  refine ⟨h.row, h.wf, fun p hp => (key p hp).1, fun p hp => (key p hp).2.1, fun p hp d hd e => ?_⟩
  have hb := (key p hp).2.2 d hd
  rcases h.apart p hp with h1 | h1
  · rw [hb] at h1; cases h1
  · exact h1 (by rw [e, hb])
theorem BlkOwn.push {V w2 : World} {p : BlkP} {gb cap : Nat} (h : BlkOwn N T E w v l) (hN : N ≤ w.heap.size) (hB : Below w.heap.size w V) (hw : p.blk.Wf) (hi : ∀ i ∈ p.blk.code, i.Wf) (hs : p.blk.code.length ≤ 1000000) (hc : V.ownsRow w.heap.size E 6 p.code p.blk.code.length (codeCells p.blk.code))
    (hg : V.grownBy w2 v.ownBlock) (ho : w2.ownsRow N T 5 (.slice (some ⟨gb, 0, none⟩) (l.length + 1) cap) (l.length + 1) (l.flatMap BlkP.cells ++ p.cells)) (hp : v.ownBlock = some gb ∨ V.heap.size ≤ gb) :
    BlkOwn N T E w2 (.slice (some ⟨gb, 0, none⟩) (l.length + 1) cap) (l ++ [p]) := by
  have hVs := hB.size
  have hk : BlkOwn N T E V v l := h.keep hB
  have lo : ∀ q ∈ l, ∀ b, q.code.ownBlock = some b → b < w.heap.size := fun q hq b hb => (ownsRow_lt (h.code q hq) hb).2
  have hi' : ∀ b, p.code.ownBlock = some b → w.heap.size ≤ b ∧ b < V.heap.size := fun b hb => ownsRow_lt hc hb
  have hvb : ∀ b, v.ownBlock = some b → b < w.heap.size := fun b hb => (ownsRow_lt h.row hb).2
  have all : ∀ q ∈ l ++ [p], q.blk.Wf ∧ (∀ i ∈ q.blk.code, i.Wf) ∧ q.blk.code.length ≤ 1000000 ∧ V.ownsRow N E 6 q.code q.blk.code.length (codeCells q.blk.code) ∧ (q.code.ownBlock = none ∨ v.ownBlock ≠ q.code.ownBlock) := by
    intro q hq
    rcases List.mem_append.1 hq with hq | hq
    · exact ⟨hk.wf q hq, hk.iwf q hq, hk.small q hq, hk.code q hq, hk.apart q hq⟩
    · obtain rfl : q = p := by simpa using hq
      refine ⟨hw, hi, hs, ownsRow_base hc hN, ?_⟩
      cases hb : q.code.ownBlock with
      | none => exact .inl rfl
      | some b => exact .inr (fun e => by have := (hi' b hb).1; have := hvb b e; omega)
  refine ⟨by rw [List.length_append, flat_snoc]; exact ho, fun q hq => (all q hq).1, fun q hq => (all q hq).2.1, fun q hq => (all q hq).2.2.1, fun q hq => ?_, fun q hq => ?_, fun i j q r hq hr hij => ?_⟩
  · refine ownsRow_move (all q hq).2.2.2.1 (fun k hk hl => hg.block k hl (fun e => ?_))
    rcases (all q hq).2.2.2.2 with e1 | e1
    · rw [hk] at e1; cases e1
    · exact e1 (by rw [← e, hk])
  · cases hb : q.code.ownBlock with
    | none => exact .inl rfl
    | some b =>
      refine .inr (fun e => ?_)
      have e : gb = b := by injection e
      rcases hp with hp | hp
      · rcases (all q hq).2.2.2.2 with e1 | e1
        · rw [hb] at e1; cases e1
        · exact e1 (by rw [hp, hb, e])
      · have := (ownsRow_lt (all q hq).2.2.2.1 hb).2
        omega
  · have split : ∀ {k : Nat} {q : BlkP}, (l ++ [p])[k]? = some q → l[k]? = some q ∨ (k = l.length ∧ q = p) := by
      intro k q hq
      rcases Nat.lt_or_ge k l.length with hk | hk
      · rw [List.getElem?_append_left hk] at hq; exact .inl hq
      · rw [List.getElem?_append_right hk] at hq
        have hk0 : k - l.length = 0 := by
          rcases Nat.eq_zero_or_pos (k - l.length) with h0 | h0
          · exact h0
          · rw [List.getElem?_eq_none (by simp; omega)] at hq; cases hq
        rw [hk0] at hq
        exact .inr ⟨by omega, by simpa using hq.symm⟩
    rcases split hq with h1 | ⟨h1, e1⟩
    · rcases split hr with h2 | ⟨h2, e2⟩
      · exact h.each i j q r h1 h2 hij
      · cases hb : q.code.ownBlock with
        | none => exact .inl rfl
        | some b => exact .inr (fun e => by have := lo q (List.mem_of_getElem? h1) b hb; have := (hi' b (by rw [← e2]; exact e.symm)).1; omega)
    · rcases split hr with h2 | ⟨h2, e2⟩
      · cases hb : q.code.ownBlock with
        | none => exact .inl rfl
        | some b => exact .inr (fun e => by have := lo r (List.mem_of_getElem? h2) b e.symm; have := (hi' b (by rw [← e1]; exact hb)).1; omega)
      · omega
end
/-- a copy of a function: its rows are the call's own -/
structure CopyAt (N : Nat) (TA TB TI : TypeId) (w : World) (f : Fn) (av bv : Value) (l : List BlkP) : Prop where
  arrs : w.ownsRow N TA 2 av f.arrays.length (f.arrays.flatMap arrOne)
  blks : BlkOwn N TB TI w bv l
  eq : l.map (·.blk) = f.blocks
  apart : av.ownBlock = none ∨ av.ownBlock ≠ bv.ownBlock
  codes : ∀ p ∈ l, av.ownBlock = none ∨ av.ownBlock ≠ p.code.ownBlock
section
variable {N : Nat} {TA TB TI : TypeId} {w w' : World} {f : Fn} {av bv : Value} {l : List BlkP}
theorem CopyAt.keep (h : CopyAt N TA TB TI w f av bv l) (hb : Below w.heap.size w w') : CopyAt N TA TB TI w' f av bv l :=
  { h with arrs := ownsRow_below h.arrs hb, blks := h.blks.keep hb }
theorem CopyAt.move (h : CopyAt N TA TB TI w f av bv l) (hm : ∀ k, N ≤ k → k < w.heap.size → w'.heap[k]? = w.heap[k]?) : CopyAt N TA TB TI w' f av bv l :=
  { h with arrs := ownsRow_move h.arrs (fun k hk hl => hm k (ownsRow_lt h.arrs hk).1 hl), blks := h.blks.move hm }
theorem CopyAt.base {N' : Nat} (h : CopyAt N TA TB TI w f av bv l) (hN : N' ≤ N) : CopyAt N' TA TB TI w f av bv l :=
  { h with arrs := ownsRow_base h.arrs hN, blks := { h.blks with row := ownsRow_base h.blks.row hN, code := fun p hp => ownsRow_base (h.blks.code p hp) hN } }
theorem CopyAt.push {V w2 : World} {p : BlkP} {gb cap : Nat} (h : CopyAt N TA TB TI w f av bv l) (hN : N ≤ w.heap.size) (hB : Below w.heap.size w V) (hw : p.blk.Wf) (hi : ∀ i ∈ p.blk.code, i.Wf) (hs : p.blk.code.length ≤ 1000000) (hc : V.ownsRow w.heap.size TI 6 p.code p.blk.code.length (codeCells p.blk.code))
    (hg : V.grownBy w2 bv.ownBlock) (ho : w2.ownsRow N TB 5 (.slice (some ⟨gb, 0, none⟩) (l.length + 1) cap) (l.length + 1) (l.flatMap BlkP.cells ++ p.cells)) (hp : bv.ownBlock = some gb ∨ V.heap.size ≤ gb) :
    CopyAt N TA TB TI w2 { f with blocks := f.blocks ++ [p.blk] } av (.slice (some ⟨gb, 0, none⟩) (l.length + 1) cap) (l ++ [p]) := by
  have hVs := hB.size
  refine ⟨ownsRow_move h.arrs (fun k hk hl => ?_), h.blks.push hN hB hw hi hs hc hg ho hp, by rw [List.map_append, h.eq]; rfl, ?_, fun q hq => ?_⟩
  · refine (hg.block k (Nat.lt_of_lt_of_le hl hVs) (fun e => ?_)).trans (hB.block k hl)
    rcases h.apart with e1 | e1
    · rw [hk] at e1; cases e1
    · exact e1 (by rw [hk, e])
  · cases ha : av.ownBlock with
    | none => exact .inl rfl
    | some b =>
      refine .inr (fun e => ?_)
      have e : b = gb := by injection e
      rcases hp with hp | hp
      · rcases h.apart with e1 | e1
        · rw [ha] at e1; cases e1
        · exact e1 (by rw [ha, hp, e])
      · have := (ownsRow_lt h.arrs ha).2
        omega
  · rcases List.mem_append.1 hq with hq | hq
    · exact h.codes q hq
    · obtain rfl : q = p := by simpa using hq
      cases ha : av.ownBlock with
      | none => exact .inl rfl
      | some b => exact .inr (fun e => by have := (ownsRow_lt hc e.symm).1; have := (ownsRow_lt h.arrs ha).2; omega)
theorem CopyAt.fnAt {aa ba : Option Addr} {ac bc : Nat} (h : CopyAt N TA TB TI w f (.slice aa f.arrays.length ac) (.slice ba f.blocks.length bc) l) (hr : isI64 f.regs) (hn : f.name.size ≤ 9223372036854775807) (hs : ∀ p ∈ f.arrays, p.1.size ≤ 9223372036854775807) (hal : f.arrays.length ≤ 9223372036854775807) (hbl : f.blocks.length ≤ 9223372036854775807) : FnAt w f aa ba := by
  obtain ⟨a, c, e1, h1⟩ := arrs_own h.arrs hal hs
  have hll : l.length = f.blocks.length := by have := congrArg List.length h.eq; simpa using this
  obtain ⟨b, d, e2, h2, _⟩ := h.blks.toRow.blks (by omega)
  injection e1 with e1
  injection e2 with e2
  subst e1 e2
  rw [h.eq] at h2
  exact ⟨h1, h2, hr, hn⟩
theorem CopyAt.setBox {b o : Nat} {u : Value} {arr : Array Value} {T : TypeId} (h : CopyAt N TA TB TI w f av bv l) (hb : w.heap[b]? = some (.cells arr T)) (hA : T ≠ TA) (hB : T ≠ TB) (hI : T ≠ TI) : CopyAt N TA TB TI (w.setCell ⟨b, o, none⟩ u) f av bv l := by
  have mv : ∀ {e : TypeId} {size : Nat} {v : Value} {n : Nat} {xs : List Value}, T ≠ e → w.ownsRow N e size v n xs → (w.setCell ⟨b, o, none⟩ u).ownsRow N e size v n xs := fun hT hr =>
    ownsRow_move hr (fun k hk _ => Below.heap_setCell _ _ _ _ (by rintro rfl; exact ownsRow_ne hr hb hT hk))
  exact { h with arrs := mv hA h.arrs, blks := { h.blks with row := mv hB h.blks.row, code := fun p hp => mv hI (h.blks.code p hp) } }
end
end Go.Proofs.YteknhnnlhhgppaaDoor

/-
  A copied function, changed in place (layer 17): a field of a block, a field of an instruction, an instruction more. No program is named here.
-/
namespace Go.Proofs.YteknhnnlhhgppaaDoor
set_option linter.unusedVariables false
set_option linter.unusedSimpArgs false
open Go.RowKit
set_option maxRecDepth 100000

theorem flat_set {α : Type} {f : α → List Value} {n : Nat} (hf : ∀ x, (f x).length = n) : ∀ {l : List α} {k : Nat} {p q : α} {o : Nat} {u : Value}, l[k]? = some p → o < n → f q = (f p).set o u → (l.flatMap f).set (k * n + o) u = (l.set k q).flatMap f := by
  intro l
  induction l with
  | nil => intro k p q o u h; cases h
  | cons x l ih =>
    intro k p q o u hk ho hq
    match k, hk with
    | 0, hk =>
      cases hk
      rw [Nat.zero_mul, Nat.zero_add, List.flatMap_cons, List.set_cons_zero, List.flatMap_cons, hq, List.set_append_left _ _ (by rw [hf]; exact ho)]
    | k + 1, hk =>
      have e : (k + 1) * n + o = n + (k * n + o) := by rw [Nat.succ_mul]; omega
      rw [List.flatMap_cons, List.set_cons_succ, List.flatMap_cons, e, List.set_append_right _ _ (by rw [hf]; omega), hf, Nat.add_sub_cancel_left, ih hk ho hq]
theorem flat_same {α : Type} {f : α → List Value} : ∀ {l : List α} {k : Nat} {p q : α}, l[k]? = some p → f q = f p → (l.set k q).flatMap f = l.flatMap f := by
  intro l
  induction l with
  | nil => intro k p q h; cases h
  | cons x l ih =>
    intro k p q hk hq
    match k, hk with
    | 0, hk => cases hk; rw [List.set_cons_zero, List.flatMap_cons, List.flatMap_cons, hq]
    | k + 1, hk => rw [List.set_cons_succ, List.flatMap_cons, List.flatMap_cons, ih hk hq]
theorem set_get {α : Type} {l : List α} {k j : Nat} {q r : α} (h : (l.set k q)[j]? = some r) : (j = k ∧ r = q) ∨ (j ≠ k ∧ l[j]? = some r) := by
  by_cases e : j = k
  · subst e
    rw [List.getElem?_set_self'] at h
    cases hl : l[j]? with
    | none => rw [hl] at h; cases h
    | some x => rw [hl] at h; exact .inl ⟨rfl, by simpa using h.symm⟩
  · rw [List.getElem?_set_ne (fun h => e h.symm)] at h
    exact .inr ⟨e, h⟩
theorem own_some {w : World} {N : Nat} {e : TypeId} {size n : Nat} {a : Option Addr} {c : Nat} {xs : List Value} (h : w.ownsRow N e size (.slice a n c) n xs) (hn : 0 < n) : ∃ g, a = some ⟨g, 0, none⟩ ∧ N ≤ g ∧ g < w.heap.size ∧ n ≤ c := by
  rcases ownsRow_form h with ⟨_, h0⟩ | ⟨g, cap, hv, h1, h2, h3⟩
  · omega
  · injection hv with e1 _ e3
    exact ⟨g, e1, h1, h2, by omega⟩
theorem row_free {w : World} {N : Nat} {e : TypeId} {size g m n c : Nat} {xs : List Value} (h : w.ownsRow N e size (.slice (some ⟨g, 0, none⟩) m c) n xs) (i : Nat) : w.frozen? ⟨g, i, none⟩ = false := by
  rcases h.2 with ⟨h1, _⟩ | ⟨g', cap, cur, hv, _, hc, _⟩
  · cases h1
  · cases hv
    simp [World.frozen?, hc]
section
variable {N : Nat} {T E : TypeId} {w w' : World} {v : Value} {l : List BlkP}
theorem BlkOwn.moveNe {b : Option Nat} (h : BlkOwn N T E w v l) (hm : ∀ k, k < w.heap.size → b ≠ some k → w'.heap[k]? = w.heap[k]?) (hv : v.ownBlock = none ∨ v.ownBlock ≠ b) (hc : ∀ p ∈ l, p.code.ownBlock = none ∨ p.code.ownBlock ≠ b) : BlkOwn N T E w' v l := by
  refine { h with row := ownsRow_move h.row (fun k hk hl => hm k hl (fun e => ?_)), code := fun p hp => ownsRow_move (h.code p hp) (fun k hk hl => hm k hl (fun e => ?_)) }
  · rcases hv with e1 | e1
    · rw [hk] at e1; cases e1
    · exact e1 (by rw [hk, e])
  · rcases hc p hp with e1 | e1
    · rw [hk] at e1; cases e1
    · exact e1 (by rw [hk, e])
theorem apart_sym {a b : Option Nat} (h : a = none ∨ a ≠ b) : b = none ∨ b ≠ a := by
  rcases h with rfl | h
  · cases b with
    | none => exact .inl rfl
    | some k => exact .inr (by simp)
  · exact .inr (fun e => h e.symm)
/-- a field of a block -/
theorem BlkOwn.setBlk {g n c k o : Nat} {p : BlkP} {q : Blk} {u : Value} (h : BlkOwn N T E w (.slice (some ⟨g, 0, none⟩) n c) l) (hn : l.length = n) (hk : l[k]? = some p) (ho : o < 5) (hq : q.code = p.blk.code) (hw : q.Wf) (hc : (BlkP.mk q p.a p.c).cells = p.cells.set o u) :
    BlkOwn N T E (w.setCell ⟨g, k * 5 + o, none⟩ u) (.slice (some ⟨g, 0, none⟩) n c) (l.set k ⟨q, p.a, p.c⟩) := by
  subst hn
  have hpm := List.mem_of_getElem? hk
  have hkl := (List.getElem?_eq_some_iff.1 hk).1
  have hce : (BlkP.mk q p.a p.c).code = p.code := by unfold BlkP.code; rw [hq]
  have all : ∀ r ∈ l.set k ⟨q, p.a, p.c⟩, r.blk.Wf ∧ (∀ i ∈ r.blk.code, i.Wf) ∧ r.blk.code.length ≤ 1000000 ∧ w.ownsRow N E 6 r.code r.blk.code.length (codeCells r.blk.code) ∧ (r.code.ownBlock = none ∨ some g ≠ r.code.ownBlock) := by
    intro r hr
    rcases List.mem_or_eq_of_mem_set hr with hr | rfl
    · exact ⟨h.wf r hr, h.iwf r hr, h.small r hr, h.code r hr, h.apart r hr⟩
    · rw [hce]
      simp only [hq]
      exact ⟨hw, h.iwf p hpm, h.small p hpm, h.code p hpm, h.apart p hpm⟩
  refine ⟨?_, fun r hr => (all r hr).1, fun r hr => (all r hr).2.1, fun r hr => (all r hr).2.2.1, fun r hr => ?_, fun r hr => (all r hr).2.2.2.2, fun i j r s hr hs hij => ?_⟩
  · rw [List.length_set, ← flat_set BlkP.cells_len hk ho hc]
    exact ownsRow_set h.row (by have : k * 5 + o < (k + 1) * 5 := by omega
                                exact Nat.lt_of_lt_of_le this (Nat.mul_le_mul_right 5 hkl))
  · refine ownsRow_move (all r hr).2.2.2.1 (fun b hb _ => Below.heap_setCell _ _ _ _ ?_)
    rintro rfl
    rcases (all r hr).2.2.2.2 with e | e
    · rw [hb] at e; cases e
    · exact e hb.symm
  · have hi : ∀ {i : Nat} {r : BlkP}, (l.set k ⟨q, p.a, p.c⟩)[i]? = some r → ∃ r', l[i]? = some r' ∧ r.code = r'.code := fun {i r} hr => by
      rcases set_get hr with ⟨rfl, rfl⟩ | ⟨_, hr⟩
      · exact ⟨p, hk, hce⟩
      · exact ⟨r, hr, rfl⟩
    obtain ⟨r', h1, e1⟩ := hi hr
    obtain ⟨s', h2, e2⟩ := hi hs
    rw [e1, e2]
    exact h.each i j r' s' h1 h2 hij
/-- a field of an instruction -/
theorem BlkOwn.setIns {k m o cb : Nat} {p : BlkP} {i i' : Ins} {u : Value} (h : BlkOwn N T E w v l) (hk : l[k]? = some p) (hm : p.blk.code[m]? = some i) (ho : o < 6) (hw : i'.Wf) (hc : i'.cells = i.cells.set o u) (hp : p.a = some ⟨cb, 0, none⟩) :
    BlkOwn N T E (w.setCell ⟨cb, m * 6 + o, none⟩ u) v (l.set k ⟨{ p.blk with code := p.blk.code.set m i' }, p.a, p.c⟩) := by
  have hpm := List.mem_of_getElem? hk
  have hml := (List.getElem?_eq_some_iff.1 hm).1
  have hcb : p.code.ownBlock = some cb := by unfold BlkP.code; rw [hp]; rfl
  have hce : (BlkP.mk { p.blk with code := p.blk.code.set m i' } p.a p.c).code = p.code := by unfold BlkP.code; simp
  have hcells : (BlkP.mk { p.blk with code := p.blk.code.set m i' } p.a p.c).cells = p.cells := by unfold BlkP.cells; simp
  have hrow : (w.setCell ⟨cb, m * 6 + o, none⟩ u).ownsRow N E 6 p.code p.blk.code.length (codeCells (p.blk.code.set m i')) := by
    have h1 := h.code p hpm
    unfold codeCells
    rw [← flat_set Ins.cells_len hm ho hc]
    unfold BlkP.code at h1 ⊢
    rw [hp] at h1 ⊢
    exact ownsRow_set h1 (by have : m * 6 + o < (m + 1) * 6 := by omega
                             exact Nat.lt_of_lt_of_le this (Nat.mul_le_mul_right 6 hml))
  refine ⟨?_, fun r hr => ?_, fun r hr => ?_, fun r hr => ?_, fun r hr => ?_, fun r hr => ?_, fun a b r s hr hs hab => ?_⟩
  · rw [List.length_set, flat_same hk hcells]
    refine ownsRow_move h.row (fun b hb _ => Below.heap_setCell _ _ _ _ ?_)
    rintro rfl
    rcases h.apart p hpm with e | e
    · rw [hcb] at e; cases e
    · exact e (by rw [hcb]; exact hb)
  · rcases List.mem_or_eq_of_mem_set hr with hr | rfl
    · exact h.wf r hr
    · exact ⟨(h.wf p hpm).k0, (h.wf p hpm).k1, (h.wf p hpm).x, (h.wf p hpm).to, (h.wf p hpm).els⟩
  · rcases List.mem_or_eq_of_mem_set hr with hr | rfl
    · exact h.iwf r hr
    · intro j hj
      rcases List.mem_or_eq_of_mem_set hj with hj | rfl
      · exact h.iwf p hpm j hj
      · exact hw
  · rcases List.mem_or_eq_of_mem_set hr with hr | rfl
    · exact h.small r hr
    · simpa using h.small p hpm
  · obtain ⟨j, hj⟩ := List.getElem?_of_mem hr
    rcases set_get hj with ⟨rfl, rfl⟩ | ⟨hne, hj⟩
    · rw [hce]
      simpa using hrow
    · refine ownsRow_move (h.code r (List.mem_of_getElem? hj)) (fun b hb _ => Below.heap_setCell _ _ _ _ ?_)
      rintro rfl
      rcases h.each j k r p hj hk hne with e | e
      · rw [hb] at e; cases e
      · exact e (by rw [hcb]; exact hb)
  · rcases List.mem_or_eq_of_mem_set hr with hr | rfl
    · exact h.apart r hr
    · rw [hce]; exact h.apart p hpm
  · have hi : ∀ {i : Nat} {r : BlkP}, (l.set k ⟨{ p.blk with code := p.blk.code.set m i' }, p.a, p.c⟩)[i]? = some r → ∃ r', l[i]? = some r' ∧ r.code = r'.code := fun {i r} hr => by
      rcases set_get hr with ⟨rfl, rfl⟩ | ⟨_, hr⟩
      · exact ⟨p, hk, hce⟩
      · exact ⟨r, hr, rfl⟩
    obtain ⟨r', h1, e1⟩ := hi hr
    obtain ⟨s', h2, e2⟩ := hi hs
    rw [e1, e2]
    exact h.each a b r' s' h1 h2 hab
/-- an instruction more at the end of a block's code -/
theorem BlkOwn.addIns {V w2 : World} {g n c k gb cap : Nat} {p : BlkP} {i : Ins} (h : BlkOwn N T E w (.slice (some ⟨g, 0, none⟩) n c) l) (hn : l.length = n) (hk : l[k]? = some p) (hB : Below w.heap.size w V) (hw : i.Wf) (hs : p.blk.code.length + 1 ≤ 1000000)
    (hg : V.grownBy w2 p.code.ownBlock) (ho : w2.ownsRow N E 6 (.slice (some ⟨gb, 0, none⟩) (p.blk.code.length + 1) cap) (p.blk.code.length + 1) (codeCells p.blk.code ++ i.cells)) (hp : p.code.ownBlock = some gb ∨ V.heap.size ≤ gb) :
    BlkOwn N T E (w2.setCell ⟨g, k * 5, none⟩ (.slice (some ⟨gb, 0, none⟩) (p.blk.code.length + 1) cap)) (.slice (some ⟨g, 0, none⟩) n c) (l.set k ⟨{ p.blk with code := p.blk.code ++ [i] }, some ⟨gb, 0, none⟩, cap⟩) := by
  subst hn
  have hpm := List.mem_of_getElem? hk
  have hkl := (List.getElem?_eq_some_iff.1 hk).1
  have hVs := hB.size
  have hgi : N ≤ g ∧ g < w.heap.size := ownsRow_lt h.row rfl
  have hgp : p.code.ownBlock ≠ some g := fun e => by
    rcases h.apart p hpm with e1 | e1
    · rw [e] at e1; cases e1
    · exact e1 e.symm
  have hgg : g ≠ gb := fun e => by
    rcases hp with hp | hp
    · exact hgp (by rw [hp, e])
    · omega
  have hcode : (BlkP.mk { p.blk with code := p.blk.code ++ [i] } (some ⟨gb, 0, none⟩) cap).code = .slice (some ⟨gb, 0, none⟩) (p.blk.code.length + 1) cap := by unfold BlkP.code; simp
  have old : ∀ b, b < w.heap.size → p.code.ownBlock ≠ some b → b ≠ g → (w2.setCell ⟨g, k * 5, none⟩ (.slice (some ⟨gb, 0, none⟩) (p.blk.code.length + 1) cap)).heap[b]? = w.heap[b]? := fun b hb h1 h2 =>
    (Below.heap_setCell _ _ _ _ h2).trans ((hg.block b (by omega) (fun e => h1 e.symm)).trans (hB.block b hb))
  refine ⟨?_, fun r hr => ?_, fun r hr => ?_, fun r hr => ?_, fun r hr => ?_, fun r hr => ?_, fun a b r s hr hs hab => ?_⟩
  · have hr2 : w2.ownsRow N T 5 (.slice (some ⟨g, 0, none⟩) l.length c) l.length (l.flatMap BlkP.cells) := ownsRow_move h.row (fun b hb hl => by
      cases hb
      exact (hg.block g (by omega) (fun e => hgp e.symm)).trans (hB.block g hl))
    have := ownsRow_set (j := k * 5 + 0) (u := .slice (some ⟨gb, 0, none⟩) (p.blk.code.length + 1) cap) hr2 (by omega)
    rw [flat_set (q := ⟨{ p.blk with code := p.blk.code ++ [i] }, some ⟨gb, 0, none⟩, cap⟩) BlkP.cells_len hk (by omega) (by unfold BlkP.cells; simp)] at this
    rw [List.length_set]
    exact this
  · rcases List.mem_or_eq_of_mem_set hr with hr | rfl
    · exact h.wf r hr
    · exact ⟨(h.wf p hpm).k0, (h.wf p hpm).k1, (h.wf p hpm).x, (h.wf p hpm).to, (h.wf p hpm).els⟩
  · rcases List.mem_or_eq_of_mem_set hr with hr | rfl
    · exact h.iwf r hr
    · intro j hj
      rcases List.mem_append.1 hj with hj | hj
      · exact h.iwf p hpm j hj
      · obtain rfl : j = i := by simpa using hj
        exact hw
  · rcases List.mem_or_eq_of_mem_set hr with hr | rfl
    · exact h.small r hr
    · simpa using hs
  · obtain ⟨j, hj⟩ := List.getElem?_of_mem hr
    rcases set_get hj with ⟨rfl, rfl⟩ | ⟨hne, hj⟩
    · rw [hcode]
      have : w2.ownsRow N E 6 (.slice (some ⟨gb, 0, none⟩) (p.blk.code.length + 1) cap) (p.blk.code ++ [i]).length (codeCells (p.blk.code ++ [i])) := by rw [show codeCells (p.blk.code ++ [i]) = codeCells p.blk.code ++ i.cells from flat_snoc _ _, List.length_append]; exact ho
      exact ownsRow_move this (fun b hb _ => Below.heap_setCell _ _ _ _ (by cases hb; exact fun e => hgg e.symm))
    · have hrm := List.mem_of_getElem? hj
      refine ownsRow_move (h.code r hrm) (fun b hb hl => old b hl (fun e => ?_) ?_)
      · rcases h.each j k r p hj hk hne with e1 | e1
        · rw [hb] at e1; cases e1
        · exact e1 (by rw [hb, e])
      · rintro rfl
        rcases h.apart r hrm with e1 | e1
        · rw [hb] at e1; cases e1
        · exact e1 hb.symm
  · rcases List.mem_or_eq_of_mem_set hr with hr | rfl
    · exact h.apart r hr
    · rw [hcode]
      exact .inr (fun e => hgg (by injection e))
  · have fresh : ∀ {j : Nat} {r : BlkP}, l[j]? = some r → j ≠ k → r.code.ownBlock ≠ some gb := fun {j r} hj hne e => by
      rcases hp with hp | hp
      · rcases h.each j k r p hj hk hne with e1 | e1
        · rw [e] at e1; cases e1
        · exact e1 (by rw [e, hp])
      · have := (ownsRow_lt (h.code r (List.mem_of_getElem? hj)) e).2
        omega
    rcases set_get hr with ⟨e1, e2⟩ | ⟨h1, hr1⟩
    · rcases set_get hs with ⟨e3, _⟩ | ⟨h2, hs1⟩
      · exact absurd (e1.trans e3.symm) hab
      · rw [e2, hcode]
        exact .inr (fun e => fresh hs1 h2 e.symm)
    · rcases set_get hs with ⟨_, e4⟩ | ⟨h2, hs1⟩
      · rw [e4, hcode]
        exact .inr (fresh hr1 h1)
      · exact h.each a b r s hr1 hs1 hab
end
end Go.Proofs.YteknhnnlhhgppaaDoor
