/-
  Rows of faults that are no box's (package check: Check).
-/
import Derived.Test.YtkpdngfkdmllkaaDoorMg19
import Derived.Test.YtkpdngfkdmllkaaDoorMg5
namespace Go.Proofs.YtkpdngfkdmllkaaDoor
set_option linter.unusedVariables false
set_option linter.unusedSimpArgs false
open Go.RowKit

section
variable {N : Nat} {w w2 : World} {v v' : Value} {L L2 : List FltP}
theorem FltsAt.grown (h : FltsAt N w v L) (hN : N ≤ w.heap.size) (hg : w.grownBy w2 v.ownBlock) : FrT N w w2 := by
  refine ⟨(Below.refl _ _).grown hg hN (fun k hk => (own_lt h.ro hk).1), fun k o hk hs => ?_⟩
  refine (hg.block k (mem_lt hk) (fun e => ?_)).trans hk
  rcases h.ro.2 with ⟨rfl, _⟩ | ⟨g', cap', cur, rfl, _, hc, _⟩
  · cases e
  · have e : k = g' := by injection e
    subst e
    rw [hc] at hk
    injection hk with hk
    subst hk
    exact hs.1 rfl
/-- a row joined to it -/
theorem FltsAt.join (h : FltsAt N w v L) (hN : N ≤ w.heap.size) (hg : w.grownBy w2 v.ownBlock) (hp : ∀ f ∈ L2, PathV N w f.pv f.flt.path) (ho : w2.ownsRow N 109 4 v' (L.length + L2.length) (L.flatMap FltP.cells ++ L2.flatMap FltP.cells)) : FltsAt N w2 v' (L ++ L2) := by
  refine ⟨by rw [List.length_append, List.flatMap_append]; exact ho, fun f hf => ?_⟩
  rcases List.mem_append.1 hf with hf | hf
  · exact (h.grown hN hg).path (h.ri f hf)
  · exact (h.grown hN hg).path (hp f hf)
theorem FltsAt.push {f : FltP} {n : Nat} (h : FltsAt N w v L) (hN : N ≤ w.heap.size) (hg : w.grownBy w2 v.ownBlock) (hp : PathV N w f.pv f.flt.path) (ho : w2.ownsRow N 109 4 v' n (L.flatMap FltP.cells ++ f.cells)) (hn : n = L.length + 1) : FltsAt N w2 v' (L ++ [f]) := by
  subst hn
  exact h.join hN hg (fun g hg' => by obtain rfl := List.mem_singleton.1 hg'; exact hp) (by simpa using ho)
/-- a map grows -/
theorem FltsAt.map {kb n : Nat} {S : List ByteArray} (h : FltsAt N w v L) (hN : N ≤ kb) (hs : SetS w kb n S) (hg : w.grownBy w2 (some kb)) : FltsAt N w2 v L ∧ FrK N kb w w2 := by
  have hmap : ∃ es clock, w.heap[kb]? = some (.map es clock) := by
    obtain ⟨D, ⟨es, clock, h1, _⟩, _⟩ := hs
    exact ⟨es, clock, h1⟩
  obtain ⟨es, clock, hm⟩ := hmap
  have ne : ∀ {e : TypeId} {size m B : Nat} {z : Value} {xs : List Value}, w.ownsRow B e size z m xs → z.ownBlock ≠ some kb := fun {e size m B z xs} hr he => by
    rcases hr.2 with ⟨rfl, _⟩ | ⟨g, cap, cur, rfl, _, hc, _⟩
    · cases he
    · have he : g = kb := by injection he
      subst he
      rw [hm] at hc
      cases hc
  have keep : ∀ {e : TypeId} {size m B : Nat} {z : Value} {xs : List Value}, w.ownsRow B e size z m xs → w2.ownsRow B e size z m xs := fun {e size m B z xs} hr => own_keep hr (fun k hk hl => hg.block k hl (fun e9 => ne hr (by rw [hk, e9])))
  refine ⟨⟨keep h.ro, fun f hf => keep (h.ri f hf)⟩, ⟨⟨hg.os, hg.tape, hg.output, hg.size, fun k hk => ?_⟩, fun k o hn hk _ => (hg.block k (mem_lt hk) (fun e => hn (by injection e))).trans hk⟩⟩
  by_cases hl : k < w.heap.size
  · exact hg.block k hl (fun e => by have e : k = kb := by injection e
                                     omega)
  · have := mem_lt hm
    omega
theorem FltsAt.down {N' : Nat} (h : FltsAt N w v L) (hN : N' ≤ N) : FltsAt N' w v L := ⟨own_down h.ro hN, fun f hf => own_down (h.ri f hf) hN⟩
theorem FltsAt.ones (h : FltsAt N w v L) : ∀ u ∈ L.flatMap FltP.cells, u.oneCell' = true := by
  intro u hu
  obtain ⟨f, hf, hu⟩ := List.mem_flatMap.1 hu
  obtain ⟨a, c, e⟩ := own_val (h.ri f hf)
  exact FltP.one f (by rw [e]; rfl) u hu
theorem FltsAt.src {A : Option Addr} {n c : Nat} (h : FltsAt N w (.slice A n c) L) : Src w A L.length 4 (L.flatMap FltP.cells) := by
  refine ⟨h.ro.1, ?_⟩
  rcases h.ro.2 with ⟨_, h0⟩ | ⟨g, cap, cur, hv, hg, hc, _⟩
  · exact .inl h0
  · injection hv with h1 h2 h3
    subst h1
    exact .inr ⟨_, rfl, fun j u hu => h.ro.cells rfl j u hu⟩
end
/-- the faults as plain data -/
def flat (L : List FltP) : List TFlt := L.map (fun f => TFlt.mk f.task f.flt)
theorem flat_append (L L2 : List FltP) : flat (L ++ L2) = flat L ++ flat L2 := by unfold flat; simp
theorem flat_of {ix : Int} {L : List FltP} (h : ∀ f ∈ L, f.task = ix) : flat L = (L.map (·.flt)).map (TFlt.mk ix) := by
  unfold flat
  rw [List.map_map]
  exact List.map_congr_left fun f hf => by rw [h f hf]; rfl
theorem flat_declOne (ix : Int) (b : Bool) (s : ByteArray) : flat (declOne ix b s) = (if b then [Flt.mk [] 8 s] else []).map (TFlt.mk ix) := by
  rw [flat_of (declOne_task ix b s), declOne_map]
theorem tasksF_snoc (shared : List ByteArray) : ∀ (l : List Tsk) (so : List ByteArray) (i : Nat) (t : Tsk), tasksF shared so i (l ++ [t]) = tasksF shared so i l ++ ((if memB (so ++ l.map (·.name)) t.name then [Flt.mk [] 8 t.name] else []) ++ taskF shared t).map (fun f => TFlt.mk ((i + l.length : Nat) : Int) f)
  | [], so, i, t => by simp [tasksF]
  | y :: l, so, i, t => by
    rw [List.cons_append, tasksF, tasksF, tasksF_snoc shared l (so ++ [y.name]) (i + 1) t, List.append_assoc]
    have e : i + 1 + l.length = i + (y :: l).length := by simp; omega
    rw [e]
    simp
theorem tskOk_le {t : Tsk} (h : tskOk t = true) : t.vars.length ≤ 12 ∧ t.arrays.length ≤ 4 ∧ t.body.size ≤ 400 := by
  unfold tskOk at h
  simp only [Bool.and_eq_true, decide_eq_true_eq] at h
  exact ⟨h.2.2.2.1, h.2.2.2.2.1, h.2.2.2.2.2.2.2.1.2⟩
theorem prgOk_le {p : Prg} (h : prgOk p = true) : p.shared.length ≤ 4 ∧ p.tasks.length ≤ 8 ∧ ∀ j, j < p.tasks.length → tskOk (p.tasks.getD j Tsk.none) = true := by
  unfold prgOk at h
  simp only [Bool.and_eq_true, decide_eq_true_eq, List.all_eq_true] at h
  refine ⟨h.1, h.2.1, fun j hj => h.2.2.2 _ ?_⟩
  rw [List.getD_eq_getElem?_getD, List.getElem?_eq_getElem hj]
  exact List.getElem_mem hj
end Go.Proofs.YtkpdngfkdmllkaaDoor
