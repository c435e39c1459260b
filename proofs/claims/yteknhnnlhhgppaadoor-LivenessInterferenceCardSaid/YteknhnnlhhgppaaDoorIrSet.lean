/-
  A copied function, changed in place (layer 17): a field of a block, a field of an instruction, an instruction more. No program is named here.
-/
import Derived.Test.YteknhnnlhhgppaaDoorIrOwn
namespace Go.Proofs.YteknhnnlhhgppaaDoor
set_option linter.unusedVariables false
set_option linter.unusedSimpArgs false
open Go.RowKit
set_option maxRecDepth 100000

theorem flat_set {α : Type} {f : α → List Value} {n : Nat} (hf : ∀ x, (f x).length = n) : ∀ {l : List α} {k : Nat} {p q : α} {o : Nat} {u : Value}, l[k]? = some p → o < n → f q = (f p).set o u → (l.flatMap f).set (k * n + o) u = (l.set k q).flatMap f := by
  intro l
  induction l with
  | nil => intro k p q o u h; cases h
  | cons x l ih =>
    intro k p q o u hk ho hq
    match k, hk with
    | 0, hk =>
      cases hk
      rw [Nat.zero_mul, Nat.zero_add, List.flatMap_cons, List.set_cons_zero, List.flatMap_cons, hq, List.set_append_left _ _ (by rw [hf]; exact ho)]
    | k + 1, hk =>
      have e : (k + 1) * n + o = n + (k * n + o) := by rw [Nat.succ_mul]; omega
      rw [List.flatMap_cons, List.set_cons_succ, List.flatMap_cons, e, List.set_append_right _ _ (by rw [hf]; omega), hf, Nat.add_sub_cancel_left, ih hk ho hq]
theorem flat_same {α : Type} {f : α → List Value} : ∀ {l : List α} {k : Nat} {p q : α}, l[k]? = some p → f q = f p → (l.set k q).flatMap f = l.flatMap f := by
  intro l
  induction l with
  | nil => intro k p q h; cases h
  | cons x l ih =>
    intro k p q hk hq
    match k, hk with
    | 0, hk => cases hk; rw [List.set_cons_zero, List.flatMap_cons, List.flatMap_cons, hq]
    | k + 1, hk => rw [List.set_cons_succ, List.flatMap_cons, List.flatMap_cons, ih hk hq]
theorem set_get {α : Type} {l : List α} {k j : Nat} {q r : α} (h : (l.set k q)[j]? = some r) : (j = k ∧ r = q) ∨ (j ≠ k ∧ l[j]? = some r) := by
  by_cases e : j = k
  · subst e
    rw [List.getElem?_set_self'] at h
    cases hl : l[j]? with
    | none => rw [hl] at h; cases h
    | some x => rw [hl] at h; exact .inl ⟨rfl, by simpa using h.symm⟩
  · rw [List.getElem?_set_ne (fun h => e h.symm)] at h
    exact .inr ⟨e, h⟩
theorem own_some {w : World} {N : Nat} {e : TypeId} {size n : Nat} {a : Option Addr} {c : Nat} {xs : List Value} (h : w.ownsRow N e size (.slice a n c) n xs) (hn : 0 < n) : ∃ g, a = some ⟨g, 0, none⟩ ∧ N ≤ g ∧ g < w.heap.size ∧ n ≤ c := by
  rcases ownsRow_form h with ⟨_, h0⟩ | ⟨g, cap, hv, h1, h2, h3⟩
  · omega
  · injection hv with e1 _ e3
    exact ⟨g, e1, h1, h2, by omega⟩
theorem row_free {w : World} {N : Nat} {e : TypeId} {size g m n c : Nat} {xs : List Value} (h : w.ownsRow N e size (.slice (some ⟨g, 0, none⟩) m c) n xs) (i : Nat) : w.frozen? ⟨g, i, none⟩ = false := by
  rcases h.2 with ⟨h1, _⟩ | ⟨g', cap, cur, hv, _, hc, _⟩
  · cases h1
  · cases hv
    simp [World.frozen?, hc]
section
variable {N : Nat} {T E : TypeId} {w w' : World} {v : Value} {l : List BlkP}
theorem BlkOwn.moveNe {b : Option Nat} (h : BlkOwn N T E w v l) (hm : ∀ k, k < w.heap.size → b ≠ some k → w'.heap[k]? = w.heap[k]?) (hv : v.ownBlock = none ∨ v.ownBlock ≠ b) (hc : ∀ p ∈ l, p.code.ownBlock = none ∨ p.code.ownBlock ≠ b) : BlkOwn N T E w' v l := by
  refine { h with row := ownsRow_move h.row (fun k hk hl => hm k hl (fun e => ?_)), code := fun p hp => ownsRow_move (h.code p hp) (fun k hk hl => hm k hl (fun e => ?_)) }
  · rcases hv with e1 | e1
    · rw [hk] at e1; cases e1
    · exact e1 (by rw [hk, e])
  · rcases hc p hp with e1 | e1
    · rw [hk] at e1; cases e1
    · exact e1 (by rw [hk, e])
theorem apart_sym {a b : Option Nat} (h : a = none ∨ a ≠ b) : b = none ∨ b ≠ a := by
  rcases h with rfl | h
  · cases b with
    | none => exact .inl rfl
    | some k => exact .inr (by simp)
  · exact .inr (fun e => h e.symm)
/-- a field of a block -/
theorem BlkOwn.setBlk {g n c k o : Nat} {p : BlkP} {q : Blk} {u : Value} (h : BlkOwn N T E w (.slice (some ⟨g, 0, none⟩) n c) l) (hn : l.length = n) (hk : l[k]? = some p) (ho : o < 5) (hq : q.code = p.blk.code) (hw : q.Wf) (hc : (BlkP.mk q p.a p.c).cells = p.cells.set o u) :
    BlkOwn N T E (w.setCell ⟨g, k * 5 + o, none⟩ u) (.slice (some ⟨g, 0, none⟩) n c) (l.set k ⟨q, p.a, p.c⟩) := by
  subst hn
  have hpm := List.mem_of_getElem? hk
  have hkl := (List.getElem?_eq_some_iff.1 hk).1
  have hce : (BlkP.mk q p.a p.c).code = p.code := by unfold BlkP.code; rw [hq]
  have all : ∀ r ∈ l.set k ⟨q, p.a, p.c⟩, r.blk.Wf ∧ (∀ i ∈ r.blk.code, i.Wf) ∧ r.blk.code.length ≤ 1000000 ∧ w.ownsRow N E 6 r.code r.blk.code.length (codeCells r.blk.code) ∧ (r.code.ownBlock = none ∨ some g ≠ r.code.ownBlock) := by
    intro r hr
    rcases List.mem_or_eq_of_mem_set hr with hr | rfl
    · exact ⟨h.wf r hr, h.iwf r hr, h.small r hr, h.code r hr, h.apart r hr⟩
    · rw [hce]
      simp only [hq]
      exact ⟨hw, h.iwf p hpm, h.small p hpm, h.code p hpm, h.apart p hpm⟩
  refine ⟨?_, fun r hr => (all r hr).1, fun r hr => (all r hr).2.1, fun r hr => (all r hr).2.2.1, fun r hr => ?_, fun r hr => (all r hr).2.2.2.2, fun i j r s hr hs hij => ?_⟩
  · rw [List.length_set, ← flat_set BlkP.cells_len hk ho hc]
    exact ownsRow_set h.row (by have : k * 5 + o < (k + 1) * 5 := by omega
                                exact Nat.lt_of_lt_of_le this (Nat.mul_le_mul_right 5 hkl))
  · refine ownsRow_move (all r hr).2.2.2.1 (fun b hb _ => Below.heap_setCell _ _ _ _ ?_)
    rintro rfl
    rcases (all r hr).2.2.2.2 with e | e
    · rw [hb] at e; cases e
    · exact e hb.symm
  · have hi : ∀ {i : Nat} {r : BlkP}, (l.set k ⟨q, p.a, p.c⟩)[i]? = some r → ∃ r', l[i]? = some r' ∧ r.code = r'.code := fun {i r} hr => by
      rcases set_get hr with ⟨rfl, rfl⟩ | ⟨_, hr⟩
      · exact ⟨p, hk, hce⟩
      · exact ⟨r, hr, rfl⟩
    obtain ⟨r', h1, e1⟩ := hi hr
    obtain ⟨s', h2, e2⟩ := hi hs
    rw [e1, e2]
    exact h.each i j r' s' h1 h2 hij
/-- a field of an instruction -/
theorem BlkOwn.setIns {k m o cb : Nat} {p : BlkP} {i i' : Ins} {u : Value} (h : BlkOwn N T E w v l) (hk : l[k]? = some p) (hm : p.blk.code[m]? = some i) (ho : o < 6) (hw : i'.Wf) (hc : i'.cells = i.cells.set o u) (hp : p.a = some ⟨cb, 0, none⟩) :
    BlkOwn N T E (w.setCell ⟨cb, m * 6 + o, none⟩ u) v (l.set k ⟨{ p.blk with code := p.blk.code.set m i' }, p.a, p.c⟩) := by
  have hpm := List.mem_of_getElem? hk
  have hml := (List.getElem?_eq_some_iff.1 hm).1
  have hcb : p.code.ownBlock = some cb := by unfold BlkP.code; rw [hp]; rfl
  have hce : (BlkP.mk { p.blk with code := p.blk.code.set m i' } p.a p.c).code = p.code := by unfold BlkP.code; simp
  have hcells : (BlkP.mk { p.blk with code := p.blk.code.set m i' } p.a p.c).cells = p.cells := by unfold BlkP.cells; simp
  have hrow : (w.setCell ⟨cb, m * 6 + o, none⟩ u).ownsRow N E 6 p.code p.blk.code.length (codeCells (p.blk.code.set m i')) := by
    have h1 := h.code p hpm
    unfold codeCells
    rw [← flat_set Ins.cells_len hm ho hc]
    unfold BlkP.code at h1 ⊢
    rw [hp] at h1 ⊢
    exact ownsRow_set h1 (by have : m * 6 + o < (m + 1) * 6 := by omega
                             exact Nat.lt_of_lt_of_le this (Nat.mul_le_mul_right 6 hml))
  refine ⟨?_, fun r hr => ?_, fun r hr => ?_, fun r hr => ?_, fun r hr => ?_, fun r hr => ?_, fun a b r s hr hs hab => ?_⟩
  · rw [List.length_set, flat_same hk hcells]
    refine ownsRow_move h.row (fun b hb _ => Below.heap_setCell _ _ _ _ ?_)
    rintro rfl
    rcases h.apart p hpm with e | e
    · rw [hcb] at e; cases e
    · exact e (by rw [hcb]; exact hb)
  · rcases List.mem_or_eq_of_mem_set hr with hr | rfl
    · exact h.wf r hr
    · exact ⟨(h.wf p hpm).k0, (h.wf p hpm).k1, (h.wf p hpm).x, (h.wf p hpm).to, (h.wf p hpm).els⟩
  · rcases List.mem_or_eq_of_mem_set hr with hr | rfl
    · exact h.iwf r hr
    · intro j hj
      rcases List.mem_or_eq_of_mem_set hj with hj | rfl
      · exact h.iwf p hpm j hj
      · exact hw
  · rcases List.mem_or_eq_of_mem_set hr with hr | rfl
    · exact h.small r hr
    · simpa using h.small p hpm
  · obtain ⟨j, hj⟩ := List.getElem?_of_mem hr
    rcases set_get hj with ⟨rfl, rfl⟩ | ⟨hne, hj⟩
    · rw [hce]
      simpa using hrow
    · refine ownsRow_move (h.code r (List.mem_of_getElem? hj)) (fun b hb _ => Below.heap_setCell _ _ _ _ ?_)
      rintro rfl
      rcases h.each j k r p hj hk hne with e | e
      · rw [hb] at e; cases e
      · exact e (by rw [hcb]; exact hb)
  · rcases List.mem_or_eq_of_mem_set hr with hr | rfl
    · exact h.apart r hr
    · rw [hce]; exact h.apart p hpm
  · have hi : ∀ {i : Nat} {r : BlkP}, (l.set k ⟨{ p.blk with code := p.blk.code.set m i' }, p.a, p.c⟩)[i]? = some r → ∃ r', l[i]? = some r' ∧ r.code = r'.code := fun {i r} hr => by
      rcases set_get hr with ⟨rfl, rfl⟩ | ⟨_, hr⟩
      · exact ⟨p, hk, hce⟩
      · exact ⟨r, hr, rfl⟩
    obtain ⟨r', h1, e1⟩ := hi hr
    obtain ⟨s', h2, e2⟩ := hi hs
    rw [e1, e2]
    exact h.each a b r' s' h1 h2 hab
/-- an instruction more at the end of a block's code -/
theorem BlkOwn.addIns {V w2 : World} {g n c k gb cap : Nat} {p : BlkP} {i : Ins} (h : BlkOwn N T E w (.slice (some ⟨g, 0, none⟩) n c) l) (hn : l.length = n) (hk : l[k]? = some p) (hB : Below w.heap.size w V) (hw : i.Wf) (hs : p.blk.code.length + 1 ≤ 1000000)
    (hg : V.grownBy w2 p.code.ownBlock) (ho : w2.ownsRow N E 6 (.slice (some ⟨gb, 0, none⟩) (p.blk.code.length + 1) cap) (p.blk.code.length + 1) (codeCells p.blk.code ++ i.cells)) (hp : p.code.ownBlock = some gb ∨ V.heap.size ≤ gb) :
    BlkOwn N T E (w2.setCell ⟨g, k * 5, none⟩ (.slice (some ⟨gb, 0, none⟩) (p.blk.code.length + 1) cap)) (.slice (some ⟨g, 0, none⟩) n c) (l.set k ⟨{ p.blk with code := p.blk.code ++ [i] }, some ⟨gb, 0, none⟩, cap⟩) := by
  subst hn
  have hpm := List.mem_of_getElem? hk
  have hkl := (List.getElem?_eq_some_iff.1 hk).1
  have hVs := hB.size
  have hgi : N ≤ g ∧ g < w.heap.size := ownsRow_lt h.row rfl
  have hgp : p.code.ownBlock ≠ some g := fun e => by
    rcases h.apart p hpm with e1 | e1
    · rw [e] at e1; cases e1
    · exact e1 e.symm
  have hgg : g ≠ gb := fun e => by
    rcases hp with hp | hp
    · exact hgp (by rw [hp, e])
    · omega
  have hcode : (BlkP.mk { p.blk with code := p.blk.code ++ [i] } (some ⟨gb, 0, none⟩) cap).code = .slice (some ⟨gb, 0, none⟩) (p.blk.code.length + 1) cap := by unfold BlkP.code; simp
  have old : ∀ b, b < w.heap.size → p.code.ownBlock ≠ some b → b ≠ g → (w2.setCell ⟨g, k * 5, none⟩ (.slice (some ⟨gb, 0, none⟩) (p.blk.code.length + 1) cap)).heap[b]? = w.heap[b]? := fun b hb h1 h2 =>
    (Below.heap_setCell _ _ _ _ h2).trans ((hg.block b (by omega) (fun e => h1 e.symm)).trans (hB.block b hb))
  refine ⟨?_, fun r hr => ?_, fun r hr => ?_, fun r hr => ?_, fun r hr => ?_, fun r hr => ?_, fun a b r s hr hs hab => ?_⟩
  · have hr2 : w2.ownsRow N T 5 (.slice (some ⟨g, 0, none⟩) l.length c) l.length (l.flatMap BlkP.cells) := ownsRow_move h.row (fun b hb hl => by
      cases hb
      exact (hg.block g (by omega) (fun e => hgp e.symm)).trans (hB.block g hl))
    have := ownsRow_set (j := k * 5 + 0) (u := .slice (some ⟨gb, 0, none⟩) (p.blk.code.length + 1) cap) hr2 (by omega)
    rw [flat_set (q := ⟨{ p.blk with code := p.blk.code ++ [i] }, some ⟨gb, 0, none⟩, cap⟩) BlkP.cells_len hk (by omega) (by unfold BlkP.cells; simp)] at this
    rw [List.length_set]
    exact this
  · rcases List.mem_or_eq_of_mem_set hr with hr | rfl
    · exact h.wf r hr
    · exact ⟨(h.wf p hpm).k0, (h.wf p hpm).k1, (h.wf p hpm).x, (h.wf p hpm).to, (h.wf p hpm).els⟩
  · rcases List.mem_or_eq_of_mem_set hr with hr | rfl
    · exact h.iwf r hr
    · intro j hj
      rcases List.mem_append.1 hj with hj | hj
      · exact h.iwf p hpm j hj
      · obtain rfl : j = i := by simpa using hj
        exact hw
  · rcases List.mem_or_eq_of_mem_set hr with hr | rfl
    · exact h.small r hr
    · simpa using hs
  · obtain ⟨j, hj⟩ := List.getElem?_of_mem hr
    rcases set_get hj with ⟨rfl, rfl⟩ | ⟨hne, hj⟩
    · rw [hcode]
      have : w2.ownsRow N E 6 (.slice (some ⟨gb, 0, none⟩) (p.blk.code.length + 1) cap) (p.blk.code ++ [i]).length (codeCells (p.blk.code ++ [i])) := by rw [show codeCells (p.blk.code ++ [i]) = codeCells p.blk.code ++ i.cells from flat_snoc _ _, List.length_append]; exact ho
      exact ownsRow_move this (fun b hb _ => Below.heap_setCell _ _ _ _ (by cases hb; exact fun e => hgg e.symm))
    · have hrm := List.mem_of_getElem? hj
      refine ownsRow_move (h.code r hrm) (fun b hb hl => old b hl (fun e => ?_) ?_)
      · rcases h.each j k r p hj hk hne with e1 | e1
        · rw [hb] at e1; cases e1
        · exact e1 (by rw [hb, e])
      · rintro rfl
        rcases h.apart r hrm with e1 | e1
        · rw [hb] at e1; cases e1
        · exact e1 hb.symm
  · rcases List.mem_or_eq_of_mem_set hr with hr | rfl
    · exact h.apart r hr
    · rw [hcode]
      exact .inr (fun e => hgg (by injection e))
  · have fresh : ∀ {j : Nat} {r : BlkP}, l[j]? = some r → j ≠ k → r.code.ownBlock ≠ some gb := fun {j r} hj hne e => by
      rcases hp with hp | hp
      · rcases h.each j k r p hj hk hne with e1 | e1
        · rw [e] at e1; cases e1
        · exact e1 (by rw [e, hp])
      · have := (ownsRow_lt (h.code r (List.mem_of_getElem? hj)) e).2
        omega
    rcases set_get hr with ⟨e1, e2⟩ | ⟨h1, hr1⟩
    · rcases set_get hs with ⟨e3, _⟩ | ⟨h2, hs1⟩
      · exact absurd (e1.trans e3.symm) hab
      · rw [e2, hcode]
        exact .inr (fun e => fresh hs1 h2 e.symm)
    · rcases set_get hs with ⟨_, e4⟩ | ⟨h2, hs1⟩
      · rw [e4, hcode]
        exact .inr (fresh hr1 h1)
      · exact h.each a b r s hr1 hs1 hab
end
end Go.Proofs.YteknhnnlhhgppaaDoor
