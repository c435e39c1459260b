/-
  Apps: several texts in one (AppSt, RowsSrc).
-/
import Derived.Test.YtnegdmhmhdojbaaDoorMemSet
import Derived.Test.YtnegdmhmhdojbaaDoorBases
import Derived.Deep.RegionHeld
import Derived.OrdersHeld
import Derived.Deep.Cut
import Derived.Deep.CutRange
import Derived.Deep.DeepCutAuto
import Derived.Deep.CutBlock
import Derived.Test.YtnegdmhmhdojbaaDoorChkPlains
/-
  A row that a drawn region builds by appends, beside boxes and new objects. No program's function is named here.
-/
namespace Go.Proofs.YtnegdmhmhdojbaaDoor
set_option linter.unusedVariables false
set_option linter.unusedSimpArgs false
open Go.RowKit

theorem Src.below {w w' : World} {A : Option Addr} {m size : Nat} {news : List Value} (h : Src w A m size news) (hB : Below w.heap.size w w') : Src w' A m size news :=
  ⟨h.1, h.2.imp id fun ⟨ad, h1, h2⟩ => ⟨ad, h1, fun j u hu => (hB.cell (World.block_lt_of_cell? w _ (h2 j u hu))).trans (h2 j u hu)⟩⟩
theorem own_src {w : World} {base : Nat} {e : TypeId} {size n c : Nat} {A : Option Addr} {xs : List Value} (h : w.ownsRow base e size (.slice A n c) n xs) : Src w A n size xs := by
  refine ⟨h.1, ?_⟩
  rcases h.2 with ⟨h1, h2⟩ | ⟨g, cap, cur, h1, hg, hc, _⟩
  · exact .inl h2
  · injection h1 with h1 h2 h3
    subst h1
    exact .inr ⟨_, rfl, fun j u hu => h.cells rfl j u hu⟩
/-- one new object as a source -/
theorem one_src {w : World} {b n size : Nat} {cs : List Value} {e : TypeId} (h : w.heap[b]? = some (.cells cs.toArray e)) (hl : cs.length = n * size) : Src w (some ⟨b, 0, none⟩) n size cs :=
  ⟨hl, .inr ⟨_, rfl, fun j u hu => by
    have e1 : (⟨b, 0, none⟩ : Addr).add j = ⟨b, j, none⟩ := by
      unfold Addr.add
      by_cases h0 : j = 0 <;> simp [h0]
    rw [e1, mem_cell h]
    simpa using hu⟩⟩
structure AppSt (W : World) (Ks : List (Nat × Obj)) (e : TypeId) (size : Nat) (v : Value) (n : Nat) (xs : List Value) (w : World) : Prop where
  bel : Below W.heap.size W w
  own : w.ownsRow W.heap.size e size v n xs
  blk : ∀ x ∈ Ks, w.heap[x.1]? = some x.2 ∧ v.ownBlock ≠ some x.1
section
variable {W w w' : World} {Ks : List (Nat × Obj)} {e : TypeId} {size n m : Nat} {v v' : Value} {xs news : List Value}
theorem AppSt.begin (hB : Below W.heap.size W w) (hk : ∀ x ∈ Ks, w.heap[x.1]? = some x.2) : AppSt W Ks e size (.slice none 0 0) 0 [] w :=
  ⟨hB, World.ownsRow_nil _ _ _ _, fun x hx => ⟨hk x hx, fun h => by cases h⟩⟩
theorem AppSt.start (h : AppSt W Ks e size v n xs w) : AppSt W Ks e size (.slice (some ⟨w.heap.size, 0, none⟩) 0 0) 0 [] (w.alloc (.cells #[] e)) :=
  ⟨mem_then h.bel (mem_alloc _ _), ⟨by simp, .inr ⟨w.heap.size, 0, #[], rfl, h.bel.size, mem_new _ _, by omega, by unfold maxLen; omega, by simp, by simp⟩⟩, fun x hx => ⟨mem_keep (h.blk x hx).1 (mem_alloc _ _), fun he => by
    have h1 := mem_lt (h.blk x hx).1
    have : w.heap.size = x.1 := Option.some.inj he
    omega⟩⟩
theorem AppSt.alloc (h : AppSt W Ks e size v n xs w) (o : Obj) : AppSt W ((w.heap.size, o) :: Ks) e size v n xs (w.alloc o) :=
  ⟨mem_then h.bel (mem_alloc _ _), own_below h.own (mem_alloc _ _), fun x hx => by
    rcases List.mem_cons.1 hx with rfl | hx
    · exact ⟨mem_new _ _, fun he => by
        have h1 := (own_lt h.own he).2
        omega⟩
    · exact ⟨mem_keep (h.blk x hx).1 (mem_alloc _ _), (h.blk x hx).2⟩⟩
theorem AppSt.grow (h : AppSt W Ks e size v n xs w) (ho : w'.ownsRow W.heap.size e size v' m news) (hg : w.grownBy w' v.ownBlock) (hp : v'.ownBlock = v.ownBlock ∨ v'.ownBlock = some w.heap.size) : AppSt W Ks e size v' m news w' :=
  ⟨h.bel.grown hg h.bel.size (fun k hk => (own_lt h.own hk).1), ho, fun x hx => ⟨(hg.block x.1 (mem_lt (h.blk x hx).1) (fun he => (h.blk x hx).2 he.symm)).trans (h.blk x hx).1, fun he => by
    rcases hp with hp | hp
    · exact (h.blk x hx).2 (hp ▸ he)
    · have h1 := mem_lt (h.blk x hx).1
      rw [hp] at he
      have : w.heap.size = x.1 := Option.some.inj he
      omega⟩⟩
/-- the end: the row is stored into a box -/
def AppEnd (W : World) (ub : Nat) (arr : Array Value) (T e : TypeId) (size k n : Nat) (xs : List Value) (w' : World) : Prop :=
  ∃ A c, w'.heap[ub]? = some (.cells (arr.setIfInBounds k (.slice A n c)) T) ∧ w'.ownsRow W.heap.size e size (.slice A n c) n xs ∧ Below W.heap.size W w'
theorem AppSt.put {ub k c : Nat} {A : Option Addr} {arr : Array Value} {T : TypeId} (h : AppSt W Ks e size (.slice A n c) n xs w) (hu : (ub, Obj.cells arr T) ∈ Ks) (hW : W.heap.size ≤ ub) :
    AppEnd W ub arr T e size k n xs (w.setCell ⟨ub, k, none⟩ (.slice A n c)) := by
  obtain ⟨h1, h2⟩ := h.blk _ hu
  refine ⟨A, c, mem_set h1, own_keep h.own (fun b hb _ => Below.heap_setCell _ _ _ _ (fun e1 => ?_)), h.bel.setCell hW _⟩
  have e1 : b = ub := e1
  subst e1
  exact h2 hb
end
/-- the relation, at a normal end alone -/
def OnlyRunA (R : Act → World → Prop) : Exit → Act → World → Prop
  | .normal, a, w => R a w
  | _, _, _ => False
theorem cut_runA {P : Program} {cd : Code} {Q : Exit → Act → World → Prop} {a : Act} {W : World} (R : Act → Act → World → Prop)
    (h : cd.wp P (OnlyRunA (R a)) a W) (hq : ∀ a' w', R a a' w' → Q .normal a' w') : cd.wp P Q a W :=
  wp_mono h fun e a' w' h' => by cases e <;> first | exact hq a' w' h' | exact (h' : False).elim
/-- slots from lo on, n of them, are turned -/
def putAll (ts : Array Value) : Nat → List Value → Array Value
  | _, [] => ts
  | lo, y :: l => putAll (ts.setIfInBounds lo y) (lo + 1) l
def RunEnd (lo n : Nat) (P : World → Prop) (a a' : Act) (w' : World) : Prop := ∃ l : List Value, l.length = n ∧ a' = { a with tmps := putAll a.tmps lo l } ∧ P w'
end Go.Proofs.YtnegdmhmhdojbaaDoor

/-
  Rows of names, arrays and tasks as sources of an append, and read out of a row that a call built.
-/
namespace Go.Proofs.YtnegdmhmhdojbaaDoor
set_option linter.unusedVariables false
set_option linter.unusedSimpArgs false
open Go.RowKit

theorem add_none (b off j : Nat) : (⟨b, off, none⟩ : Addr).add j = ⟨b, off + j, none⟩ := by
  unfold Addr.add
  by_cases h0 : j = 0 <;> simp [h0]
theorem StrsAt.src {w : World} {a : Option Addr} {l : List ByteArray} (h : StrsAt w a l) : Src w a l.length 1 (l.map Value.string) := by
  refine ⟨by simp, ?_⟩
  by_cases h0 : l.length = 0
  · exact .inl h0
  · obtain ⟨b, off, ha, _⟩ := h.2 0 (by omega)
    refine .inr ⟨_, ha, fun j u hu => ?_⟩
    rw [List.getElem?_map] at hu
    obtain ⟨s, hs, rfl⟩ := Option.map_eq_some_iff.1 hu
    obtain ⟨hj, rfl⟩ := List.getElem?_eq_some_iff.1 hs
    obtain ⟨b', off', ha', hc, _⟩ := h.2 j hj
    rw [ha] at ha'
    cases ha'
    rw [add_none, hc]
    simp [hj]
theorem strs_own {w : World} {base : Nat} {e : TypeId} {A : Option Addr} {c : Nat} {l : List ByteArray} (h : w.ownsRow base e 1 (.slice A l.length c) l.length (l.map Value.string)) (hs : ∀ s ∈ l, s.size ≤ 9223372036854775807) : StrsAt w A l := by
  refine ⟨own_size h, fun i hi => ?_⟩
  obtain ⟨b, rfl, _, _⟩ := own_at h (by omega)
  refine ⟨b, 0, rfl, ?_, hs _ (by simp [hi])⟩
  rw [Nat.zero_add]
  exact own_get h (by simp [hi])
def Arr.cells (x : Arr) : List Value := [.string x.name, .int .i64 x.len]
theorem arrs_get : ∀ (l : List Arr) (i o : Nat), o < 2 → i < l.length → (l.flatMap Arr.cells)[i * 2 + o]? = (l.getD i Arr.none).cells[o]?
  | [], i, o, _, h => by simp at h
  | x :: l, 0, o, ho, _ => by
    rw [List.flatMap_cons, Nat.zero_mul, Nat.zero_add, List.getElem?_append_left (by show o < 2; exact ho)]
    rfl
  | x :: l, i + 1, o, ho, h => by
    rw [List.flatMap_cons, List.getElem?_append_right (by show 2 ≤ _; omega)]
    have := arrs_get l i o ho (by simpa using h)
    rw [show (i + 1) * 2 + o - x.cells.length = i * 2 + o by show (i + 1) * 2 + o - 2 = _; omega, this]
    rfl
theorem arrs_len : ∀ (l : List Arr), (l.flatMap Arr.cells).length = l.length * 2
  | [] => rfl
  | x :: l => by
    rw [List.flatMap_cons, List.length_append, arrs_len l, List.length_cons]
    show 2 + _ = _
    omega
theorem ArrsAt.src {w : World} {a : Option Addr} {l : List Arr} (h : ArrsAt w a l) : Src w a l.length 2 (l.flatMap Arr.cells) := by
  refine ⟨arrs_len l, ?_⟩
  by_cases h0 : l.length = 0
  · exact .inl h0
  · obtain ⟨b, off, ha, _⟩ := h.2 0 (by omega)
    refine .inr ⟨_, ha, fun j u hu => ?_⟩
    have hj : j < l.length * 2 := by rw [← arrs_len]; exact (List.getElem?_eq_some_iff.1 hu).1
    obtain ⟨b', off', ha', c0, c1, _⟩ := h.2 (j / 2) (by omega)
    rw [ha] at ha'
    cases ha'
    have hg := arrs_get l (j / 2) (j % 2) (by omega) (by omega)
    rw [show j / 2 * 2 + j % 2 = j by omega, hu] at hg
    rw [add_none]
    obtain h1 | h1 : j % 2 = 0 ∨ j % 2 = 1 := by omega
    · rw [h1] at hg
      rw [show off + j = off + j / 2 * 2 by omega, c0, hg]
      rfl
    · rw [h1] at hg
      rw [show off + j = off + j / 2 * 2 + 1 by omega, c1, hg]
      rfl
theorem arrs_ones {l : List Arr} : ∀ u ∈ l.flatMap Arr.cells, u.oneCell' = true := by
  intro u hu
  obtain ⟨x, _, hu⟩ := List.mem_flatMap.1 hu
  simp only [Arr.cells, List.mem_cons, List.not_mem_nil, or_false] at hu
  rcases hu with rfl | rfl <;> rfl
theorem strs_ones {l : List ByteArray} : ∀ u ∈ l.map Value.string, u.oneCell' = true := by
  intro u hu
  obtain ⟨s, _, rfl⟩ := List.mem_map.1 hu
  rfl
theorem arrs_own {w : World} {base : Nat} {e : TypeId} {A : Option Addr} {c : Nat} {l : List Arr} (h : w.ownsRow base e 2 (.slice A l.length c) l.length (l.flatMap Arr.cells)) (hs : ∀ x ∈ l, x.name.size ≤ 9223372036854775807 ∧ isI64 x.len) : ArrsAt w A l := by
  refine ⟨own_size h, fun i hi => ?_⟩
  obtain ⟨b, rfl, _, _⟩ := own_at h (by omega)
  obtain ⟨s1, s2⟩ := hs (l.getD i Arr.none) (by simp [hi])
  refine ⟨b, 0, rfl, ?_, ?_, s1, s2⟩
  · rw [Nat.zero_add]
    exact own_get h ((arrs_get l i 0 (by omega) hi).trans rfl)
  · rw [Nat.zero_add]
    exact own_get h ((arrs_get l i 1 (by omega) hi).trans rfl)
theorem ArrsAt.sizes {w : World} {a : Option Addr} {l : List Arr} (h : ArrsAt w a l) : ∀ x ∈ l, x.name.size ≤ 9223372036854775807 ∧ isI64 x.len := fun x hx => by
  obtain ⟨i, hi, rfl⟩ := List.getElem_of_mem hx
  obtain ⟨_, _, _, _, _, h3⟩ := h.2 i hi
  simpa [hi] using h3
theorem StrsAt.sizes {w : World} {a : Option Addr} {l : List ByteArray} (h : StrsAt w a l) : ∀ s ∈ l, s.size ≤ 9223372036854775807 := fun s hs => by
  obtain ⟨i, hi, rfl⟩ := List.getElem_of_mem hs
  obtain ⟨_, _, _, _, h3⟩ := h.2 i hi
  simpa [hi] using h3
/-- a row of tasks, one task more -/
theorem tsks_own {w : World} {base : Nat} {e : TypeId} {A a : Option Addr} {c : Nat} {l : List Tsk} {t : Tsk} {q : TskPlace} {news : List Value} (h : w.ownsRow base e 8 (.slice A (l.length + 1) c) (l.length + 1) (news ++ (t.cells q).toList)) (hl : TsksAt w a l) (hn : news.length = l.length * 8) (hcell : ∀ b off j, a = some ⟨b, off, none⟩ → j < l.length * 8 → w.cell? ⟨b, off + j, none⟩ = news[j]?) (ht : TskIn w t q) : TsksAt w A (l ++ [t]) := by
  refine ⟨by simpa using own_size h, fun i hi => ?_⟩
  obtain ⟨g, rfl, _, _⟩ := own_at h (by omega)
  have hi' : i < l.length + 1 := by simpa using hi
  by_cases hlt : i < l.length
  · obtain ⟨b, off, p, ha, hc, hin⟩ := hl.2 i hlt
    have hg : (l ++ [t]).getD i Tsk.none = l.getD i Tsk.none := by simp [List.getD_eq_getElem?_getD, List.getElem?_append_left hlt]
    rw [hg]
    refine ⟨g, 0, p, rfl, fun o ho => ?_, hin⟩
    rw [← hc o ho, Nat.zero_add, Nat.add_assoc, hcell b off (i * 8 + o) ha (by omega)]
    have hx : i * 8 + o < news.length := by omega
    rw [List.getElem?_eq_getElem hx]
    exact own_get h (by rw [List.getElem?_append_left hx, List.getElem?_eq_getElem hx])
  · obtain rfl : i = l.length := by omega
    have hg : (l ++ [t]).getD l.length Tsk.none = t := by simp
    rw [hg]
    refine ⟨g, 0, q, rfl, fun o ho => ?_, ht⟩
    have hs : o < (t.cells q).size := ho
    rw [Nat.zero_add, Array.getElem?_eq_getElem hs]
    refine own_get h ?_
    rw [List.getElem?_append_right (by omega), hn, show l.length * 8 + o - l.length * 8 = o by omega]
    simp [hs]
end Go.Proofs.YtnegdmhmhdojbaaDoor
