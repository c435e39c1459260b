/-
  Contract: CheckLoopVariables' closure 'inside' (package ontimelaw15): a statement more in a loop's block.
-/
import Derived.Test.YtnegdmhmhdojbaaDoorChkHole
import Derived.Test.YtnegdmhmhdojbaaDoorChkUnlockP
import Derived.Test.YtnegdmhmhdojbaaDoorApps
import Derived.Test.YtnegdmhmhdojbaaDoorChkPlains
import Derived.Test.YtnegdmhmhdojbaaDoorAstAts
namespace Go.Proofs.YtnegdmhmhdojbaaDoor
set_option linter.unusedVariables false
set_option linter.unusedSimpArgs false
open Go.RowKit
set_option maxRecDepth 100000
set_option maxHeartbeats 80000000

theorem inode_info : (Tryd.prog.info? 43).map (fun i => (i.zero, i.size, i.bytes)) = some (some (.agg #[.int .u8 0, .int .i64 0, .string ⟨#[]⟩, .slice none 0 0]), 4, 56) := by kernel_rfl
abbrev zeroPrg : Obj := .cells #[.slice none 0 0, .slice none 0 0] 25
theorem list_take_next {α : Type} {l : List α} {j : Nat} {d : α} (h : j < l.length) : l.take (j + 1) = l.take j ++ [l.getD j d] := by
  rw [List.take_succ_eq_append_getElem h]
  simp [h]
theorem at_next {t u u1 : Tree} {q : List Int} {j : Nat} (h : t.at q = some u) (hj : j < q.length) (h1 : t.at (q.take j) = some u1) : ∃ i : Nat, q.getD j 0 = (i : Int) ∧ i < u1.len := by
  have hn : ∃ u2, t.at (q.take (j + 1)) = some u2 := by
    cases h2 : t.at (q.take (j + 1)) with
    | some u => exact ⟨u, rfl⟩
    | none =>
      have h3 := Tree.at_none (q := q.drop (j + 1)) h2
      rw [List.take_append_drop, h] at h3
      cases h3
  obtain ⟨u2, h2⟩ := hn
  rw [list_take_next (d := (0 : Int)) hj, Tree.at_snoc, h1] at h2
  have h2 : (if 0 ≤ q.getD j 0 ∧ q.getD j 0 < (u1.len : Int) then some (u1.kid (q.getD j 0).toNat) else none) = some u2 := h2
  split at h2
  · rename_i hc
    exact ⟨(q.getD j 0).toNat, by omega, by omega⟩
  · cases h2
theorem IRow.src {w : World} {a : Option Addr} {l : List Int} (h : IRow w a l) : Src w a l.length 1 (ints l) := by
  refine ⟨by unfold ints; simp, ?_⟩
  by_cases h0 : l.length = 0
  · exact .inl h0
  · obtain ⟨b, off, ha, _⟩ := h.2 0 (by omega)
    refine .inr ⟨_, ha, fun j u hu => ?_⟩
    unfold ints at hu
    rw [List.getElem?_map] at hu
    obtain ⟨s, hs, rfl⟩ := Option.map_eq_some_iff.1 hu
    obtain ⟨hj, rfl⟩ := List.getElem?_eq_some_iff.1 hs
    obtain ⟨b', off', ha', hc⟩ := h.2 j hj
    rw [ha] at ha'
    cases ha'
    rw [add_none, hc]
    simp [hj]
/-- four cells of a row -/
def set4o (w : World) (g j : Nat) (y0 y1 y2 y3 : Value) : World := (((w.setCell ⟨g, j, none⟩ y0).setCell ⟨g, j + 1, none⟩ y1).setCell ⟨g, j + 2, none⟩ y2).setCell ⟨g, j + 3, none⟩ y3
theorem set4o_far {w : World} {g j k : Nat} {y0 y1 y2 y3 : Value} (h : k ≠ g) : (set4o w g j y0 y1 y2 y3).heap[k]? = w.heap[k]? := by
  unfold set4o
  rw [Below.heap_setCell _ _ _ _ h, Below.heap_setCell _ _ _ _ h, Below.heap_setCell _ _ _ _ h, Below.heap_setCell _ _ _ _ h]
theorem set4o_below {B : Nat} {a w : World} {g j : Nat} {y0 y1 y2 y3 : Value} (h : Below B a w) (hg : B ≤ g) : Below B a (set4o w g j y0 y1 y2 y3) :=
  (((h.setCell (p := ⟨g, j, none⟩) hg _).setCell (p := ⟨g, j + 1, none⟩) hg _).setCell (p := ⟨g, j + 2, none⟩) hg _).setCell (p := ⟨g, j + 3, none⟩) hg _
theorem set4o_own {w : World} {base g n cap : Nat} {e : TypeId} {xs : List Value} {z0 z1 z2 z3 y0 y1 y2 y3 : Value} (h : w.ownsRow base e 4 (.slice (some ⟨g, 0, none⟩) (n + 1) cap) (n + 1) (xs ++ [z0, z1, z2, z3])) (hl : xs.length = n * 4) :
    (set4o w g (n * 4) y0 y1 y2 y3).ownsRow base e 4 (.slice (some ⟨g, 0, none⟩) (n + 1) cap) (n + 1) (xs ++ [y0, y1, y2, y3]) := by
  have h0 := ownsRow_set (u := y0) h (show n * 4 < (n + 1) * 4 by omega)
  have h1 := ownsRow_set (u := y1) h0 (show n * 4 + 1 < (n + 1) * 4 by omega)
  have h2 := ownsRow_set (u := y2) h1 (show n * 4 + 2 < (n + 1) * 4 by omega)
  have h3 := ownsRow_set (u := y3) h2 (show n * 4 + 3 < (n + 1) * 4 by omega)
  have e0 : n * 4 - n * 4 = 0 := by omega
  have e1 : n * 4 + 1 - n * 4 = 1 := by omega
  have e2 : n * 4 + 2 - n * 4 = 2 := by omega
  have e3 : n * 4 + 3 - n * 4 = 3 := by omega
  rw [List.set_append_right _ _ (by omega), List.set_append_right _ _ (by omega), List.set_append_right _ _ (by omega), List.set_append_right _ _ (by omega), hl, e0, e1, e2, e3] at h3
  exact h3
/-- what the append of a statement leaves -/
def InsQ (w5 : World) (N2 b o : Nat) (ob : Option Nat) (xs : List Value) (n : Nat) (row : List Value) (W : World) : Prop :=
  ∃ a9 c9, Below N2 w5 W ∧ (∀ k j, k < w5.heap.size → ob ≠ some k → ¬ (k = b ∧ j = o + 3) → W.cell? ⟨k, j, none⟩ = w5.cell? ⟨k, j, none⟩) ∧ W.ownsRow 0 43 4 (.slice a9 (n + 1) c9) (n + 1) (xs ++ row) ∧ W.cell? ⟨b, o + 3, none⟩ = some (.slice a9 (n + 1) c9)
theorem at_len {q : List Int} : ∀ {t u : Tree}, t.at q = some u → u.size ≤ t.size := by
  induction q with
  | nil => intro t u h; cases h; exact Nat.le_refl _
  | cons k q ih =>
    intro t u h
    rw [Tree.at] at h
    split at h
    · rename_i hk
      exact Nat.le_trans (ih h) (Nat.le_of_lt (Tree.size_kid (by omega)))
    · cases h
theorem len_le_size (t : Tree) : t.len ≤ t.size := by
  have h2 : ∀ (f : Nat → Nat) (n : Nat), (∀ i, 1 ≤ f i) → n ≤ Tree.sumTo f n := by
    intro f n hf
    induction n with
    | zero => exact Nat.zero_le _
    | succ n ihn => rw [Tree.sumTo_succ]; have := hf n; omega
  have h := h2 (fun i => (t.kid i).size) t.len (fun i => Tree.size_pos _)
  rw [Tree.size_eq]
  omega
/-! a block in which no program lies -/
def Dull (w : World) (B : Nat) : Prop := ∀ j v, w.cell? ⟨B, j, none⟩ = some v → v = .slice none 0 0
theorem dull_of {w : World} {B : Nat} (h : w.heap[B]? = some zeroPrg) : Dull w B := fun j v hv => by
  unfold World.cell? at hv
  simp only [h] at hv
  match j, hv with
  | 0, hv => simpa using hv.symm
  | 1, hv => simpa using hv.symm
  | j + 2, hv => simp at hv
section
variable {w w' : World} {B : Nat}
theorem off_arrs (hd : Dull w B) (he : ∀ k, k ≠ B → w'.heap[k]? = w.heap[k]?) {a : Option Addr} {l : List Arr} (h : ArrsAt w a l) : ArrsAt w' a l := ⟨h.1, fun i hi => by
  obtain ⟨b, off, ha, h1, h2, h3⟩ := h.2 i hi
  have hb : b ≠ B := fun e => by subst e; cases hd _ _ h1
  exact ⟨b, off, ha, (cell_heap_eq (he b hb)).trans h1, (cell_heap_eq (he b hb)).trans h2, h3⟩⟩
theorem off_strs (hd : Dull w B) (he : ∀ k, k ≠ B → w'.heap[k]? = w.heap[k]?) {a : Option Addr} {l : List ByteArray} (h : StrsAt w a l) : StrsAt w' a l := ⟨h.1, fun i hi => by
  obtain ⟨b, off, ha, h1, h2⟩ := h.2 i hi
  have hb : b ≠ B := fun e => by subst e; cases hd _ _ h1
  exact ⟨b, off, ha, (cell_heap_eq (he b hb)).trans h1, h2⟩⟩
theorem off_rep (hd : Dull w B) (he : ∀ k, k ≠ B → w'.heap[k]? = w.heap[k]?) : ∀ {t : Tree} {a : Option Addr}, Rep w t a → Rep w' t a := by
  intro t
  induction t using Tree.ind with
  | h t ih =>
    intro a h
    refine Rep.mk h.fits ?_
    rcases h.kids with h0 | ⟨b, off, ha, hk⟩
    · exact .inl h0
    · refine .inr ⟨b, off, ha, fun i hi => ?_⟩
      obtain ⟨ai, ci, hn, hr⟩ := hk i hi
      have hb : b ≠ B := fun e => by subst e; cases hd _ _ hn.kind
      exact ⟨ai, ci, hn.same (he b hb), ih i hi hr⟩
theorem off_prg (hd : Dull w B) (he : ∀ k, k ≠ B → w'.heap[k]? = w.heap[k]?) {p : Prg} {sa ta : Option Addr} (h : PrgAt w p sa ta) : PrgAt w' p sa ta := by
  refine ⟨off_arrs hd he h.1, h.2.1, fun i hi => ?_⟩
  obtain ⟨b, off, q, ha, hc, hin⟩ := h.2.2 i hi
  have hb : b ≠ B := fun e => by
    subst e
    have h0 := hc 0 (by omega)
    simp only [Tsk.cells, List.getElem?_toArray, List.getElem?_cons_zero] at h0
    cases hd _ _ h0
  exact ⟨b, off, q, ha, fun o ho => (cell_heap_eq (he b hb)).trans (hc o ho), ⟨hin.name, hin.period, off_strs hd he hin.vars, off_arrs hd he hin.arrays, off_rep hd he hin.body⟩⟩
end
theorem list11i {α : Type} {l : List α} (h : l.length = 11) : ∃ a0 a1 a2 a3 a4 a5 a6 a7 a8 a9 a10, l = [a0, a1, a2, a3, a4, a5, a6, a7, a8, a9, a10] := by
  match l, h with
  | [a0, a1, a2, a3, a4, a5, a6, a7, a8, a9, a10], _ => exact ⟨a0, a1, a2, a3, a4, a5, a6, a7, a8, a9, a10, rfl⟩
theorem list3i {α : Type} {l : List α} (h : l.length = 3) : ∃ a0 a1 a2, l = [a0, a1, a2] := by
  match l, h with
  | [a0, a1, a2], _ => exact ⟨a0, a1, a2, rfl⟩
def RunEndI (lo n s : Nat) (P : Value → World → Prop) (a a' : Act) (w' : World) : Prop := ∃ (l : List Value) (v : Value), l.length = n ∧ a' = { a with tmps := (putAll a.tmps lo l).setIfInBounds s v } ∧ P v w'
/-- the task with a statement more -/
abbrev insT (t : Tsk) (path : List Int) (u s : Tree) : Tsk := bodyT t (repAt t.body (path ++ [0]) (addKid u s))
theorem inside_any (p : Prg) (t : Tsk) (q : TskPlace) (path : List Int) (i : Nat) (s u : Tree) (w : World) (tb qb pb ib : Nat) (sa ta : Option Addr) (sc tc : Nat) (sna : Option Addr) (snc : Nat) (pa : Option Addr) (pc : Nat)
    (htb : w.heap[tb]? = some (tskObj t q)) (hti : TskIn w t q) (hqb : w.heap[qb]? = some (.cells #[.slice pa path.length pc] 33)) (hpv : IRow w pa path) (hpb : w.heap[pb]? = some (prgObj p sa sc ta tc)) (hp : PrgAt w p sa ta) (hib : w.heap[ib]? = some (.cells #[.int .i64 (i : Int)] 3)) (hg : SignsIn w) (hs : Rep w s sna)
    (hil : i < p.tasks.length) (h8 : p.tasks.length ≤ 1000) (hat : t.body.at (path ++ [0]) = some u) (hsz : t.body.size ≤ 10000) (hpl : path.length ≤ 1000) :
    Calls Tryd.prog 40 #[s.val sna snc, .pointer (some ⟨tb, 0, none⟩), .pointer (some ⟨qb, 0, none⟩), .pointer (some ⟨pb, 0, none⟩), .pointer (some ⟨ib, 0, none⟩)] w fun e w' => ∃ ta' tc', e = .returned (.tuple #[(swapP p i (insT t path u s)).val sa sc ta' tc', .bool (prgOk (swapP p i (insT t path u s)))]) ∧ PrgAt w' (swapP p i (insT t path u s)) sa ta' ∧ Below w.heap.size w w' := by
  obtain ⟨i0, hi, iz0, iz1, iz2⟩ := info_parts Tryd.infoInt
  obtain ⟨n0, hni, nz0, nz1, nz2⟩ := info_parts inode_info
  obtain ⟨A1, hA1⟩ : ∃ A1 : World, w.alloc (boxObj s sna snc) = A1 := ⟨_, rfl⟩
  obtain ⟨A2, hA2⟩ : ∃ A2 : World, A1.alloc zeroPrg = A2 := ⟨_, rfl⟩
  obtain ⟨A3, hA3⟩ : ∃ A3 : World, A2.alloc (tskObj t q) = A3 := ⟨_, rfl⟩
  have hB1 : Below w.heap.size w A1 := by rw [← hA1]; exact mem_alloc _ _
  have hB2 : Below A1.heap.size A1 A2 := by rw [← hA2]; exact mem_alloc _ _
  have hB3 : Below A2.heap.size A2 A3 := by rw [← hA3]; exact mem_alloc _ _
  have hX1 : A1.heap[w.heap.size]? = some (boxObj s sna snc) := by rw [← hA1]; exact mem_new _ _
  have hX2 : A2.heap[A1.heap.size]? = some zeroPrg := by rw [← hA2]; exact mem_new _ _
  have hX3 : A3.heap[A2.heap.size]? = some (tskObj t q) := by rw [← hA3]; exact mem_new _ _
  have HB := Lib.hid (mem_then hB1 (mem_then hB2 hB3))
  have HLT : Hid (w.heap.size < A1.heap.size ∧ A1.heap.size < A2.heap.size ∧ A2.heap.size < A3.heap.size) := ⟨mem_lt hX1, mem_lt hX2, mem_lt hX3⟩
  have hx1 := mem_keep hX1 (mem_then hB2 hB3)
  have hx2 := mem_keep hX2 hB3
  -- what lay there: kept by every world that is like w below
  have HK : Hid (∀ w', Below w.heap.size w w' → w'.heap[tb]? = some (tskObj t q) ∧ TskIn w' t q ∧ w'.heap[qb]? = some (.cells #[.slice pa path.length pc] 33) ∧ IRow w' pa path ∧ w'.heap[pb]? = some (prgObj p sa sc ta tc) ∧ PrgAt w' p sa ta ∧ w'.heap[ib]? = some (.cells #[.int .i64 (i : Int)] 3) ∧ SignsIn w' ∧ Rep w' s sna) := fun w' h =>
    ⟨mem_keep htb h, hti.below h, mem_keep hqb h, hpv.below h, mem_keep hpb h, hp.below h, mem_keep hib h, hg.below h, hs.below h⟩
  have HS1 := Lib.hid hx1
  have HS2 := Lib.hid hx2
  have HU3 := Lib.hid hX3
  have HAT := Lib.hid hat
  have hsf := hs.fits
  have hlw := mem_lt htb
  have x0 := mem_cell (mem_keep htb (mem_then hB1 hB2)) 0
  have x1 := mem_cell (mem_keep htb (mem_then hB1 hB2)) 1
  have x2 := mem_cell (mem_keep htb (mem_then hB1 hB2)) 2
  have x3 := mem_cell (mem_keep htb (mem_then hB1 hB2)) 3
  have x4 := mem_cell (mem_keep htb (mem_then hB1 hB2)) 4
  have x5 := mem_cell (mem_keep htb (mem_then hB1 hB2)) 5
  have x6 := mem_cell (mem_keep htb (mem_then hB1 hB2)) 6
  have x7 := mem_cell (mem_keep htb (mem_then hB1 hB2)) 7
  have y4 := mem_cell (mem_keep htb HB.out) 4
  have y5 := mem_cell (mem_keep htb HB.out) 5
  have y6 := mem_cell (mem_keep htb HB.out) 6
  have y7 := mem_cell (mem_keep htb HB.out) 7
  simp only [Tsk.cells, List.getElem?_toArray, List.getElem?_cons_zero, List.getElem?_cons_succ] at x0 x1 x2 x3 x4 x5 x6 x7 y4 y5 y6 y7
  have hvl := hti.vars.1
  have hal := hti.arrays.1
  have hkl := hti.body.fits.len
  have HCL := Lib.hid (sclone_any t.body A3 q.ka q.kc (HK.out A3 HB.out).2.1.body (by omega))
  clear htb hti hqb hpv hpb hp hib hg hs hat hB1 hB2 hB3 hX1 hX2 hX3 hx1 hx2
  obtain ⟨T2, hT2⟩ : ∃ T, insT t path u s = T := ⟨_, rfl⟩
  have HT2 := Lib.hid hT2
  rw [hT2]
  clear hT2
  obtain ⟨qva, qvc, qaa, qac, qka, qkc⟩ := q
  go_enter Tryd.func40, Tryd.ntmps40
  go_wp2_with fail
  clear hA1 hA2 hA3 x0 x1 x2 x3 x4 x5 x6 x7 y4 y5 y6 y7
  have h9 := HCL.out
  refine h9.mono ?_
  clear h9
  rintro e w1 ⟨a1, c1, rfl, hsep, hb1⟩
  have HSEP1 := Lib.hid hsep
  have HB1 := Lib.hid hb1
  have hU1 := mem_keep HU3.out hb1
  have x4 := mem_cell hU1 4
  have x5 := mem_cell hU1 5
  have x6 := mem_cell hU1 6
  have x7 := mem_cell hU1 7
  have f4 := mem_free hU1 4
  have f5 := mem_free hU1 5
  have f6 := mem_free hU1 6
  have f7 := mem_free hU1 7
  simp only [Tsk.cells, List.getElem?_toArray, List.getElem?_cons_zero, List.getElem?_cons_succ] at x4 x5 x6 x7
  clear hsep hb1
  go_upto_region 3 with fail
  obtain ⟨w2, hw2⟩ : ∃ w2 : World, w2 = (((w1.setCell ⟨A2.heap.size, 4, none⟩ (.int .u8 t.body.kind)).setCell ⟨A2.heap.size, 5, none⟩ (.int .i64 t.body.num)).setCell ⟨A2.heap.size, 6, none⟩ (.string t.body.name)).setCell ⟨A2.heap.size, 7, none⟩ (.slice a1 t.body.len c1) := ⟨_, rfl⟩
  rw [← hw2]
  have hU2 : w2.heap[A2.heap.size]? = some (tskObj t ⟨qva, qvc, qaa, qac, a1, c1⟩) := by
    rw [hw2, mem_set (mem_set (mem_set (mem_set hU1)))]
    rfl
  have hoth : ∀ {k : Nat}, k ≠ A2.heap.size → w2.heap[k]? = w1.heap[k]? := fun {k} hn => by
    rw [hw2, Below.heap_setCell _ _ _ _ hn, Below.heap_setCell _ _ _ _ hn, Below.heap_setCell _ _ _ _ hn, Below.heap_setCell _ _ _ _ hn]
  have hsz2 : w2.heap.size = w1.heap.size := by rw [hw2]; simp
  have HZ2 : Hid (A3.heap.size ≤ w2.heap.size) := by show _ ≤ _; rw [hsz2]; exact HB1.out.size
  have HB2 : Hid (Below w.heap.size w w2) := by
    have hge : w.heap.size ≤ A2.heap.size := by have := HLT.out; omega
    show Below _ _ _
    rw [hw2]
    exact ((((mem_then HB.out HB1.out).setCell (p := ⟨A2.heap.size, 4, none⟩) hge _).setCell (p := ⟨A2.heap.size, 5, none⟩) hge _).setCell (p := ⟨A2.heap.size, 6, none⟩) hge _).setCell (p := ⟨A2.heap.size, 7, none⟩) hge _
  have HHOLE : Hid (Hole w2 (fun k => A3.heap.size ≤ k ∧ k < w2.heap.size) A2.heap.size 4 t.body [] t.body A2.heap.size 4 a1 c1 (fun k => A3.heap.size ≤ k ∧ k < w2.heap.size)) := by
    refine Hole.nil (HSEP1.out.move (fun k hk => hoth (by have := HLT.out; omega)) (fun k hk => by rw [hsz2]; exact hk)) ⟨mem_cell hU2 4, mem_cell hU2 5, mem_cell hU2 6, mem_cell hU2 7⟩ (fun h => by have := HLT.out; have := h.1; omega) (fun j => mem_free hU2 j)
  have HS12 : Hid (w2.heap[w.heap.size]? = some (boxObj s sna snc) ∧ w2.heap[A1.heap.size]? = some zeroPrg ∧ w2.heap[A2.heap.size]? = some (tskObj t ⟨qva, qvc, qaa, qac, a1, c1⟩)) :=
    ⟨(hoth (by have := HLT.out; omega)).trans (mem_keep HS1.out HB1.out), (hoth (by have := HLT.out; omega)).trans (mem_keep HS2.out HB1.out), hU2⟩
  have q0 := mem_cell (HK.out w2 HB2.out).2.2.1 0
  simp only [List.getElem?_toArray, List.getElem?_cons_zero, List.getElem?_cons_succ] at q0
  have hqlt : qb < w2.heap.size := mem_lt (HK.out w2 HB2.out).2.2.1
  clear hw2 hU1 hU2 hoth hsz2 x4 x5 x6 x7 f4 f5 f6 f7
  have HMADE : Hid ((w2.alloc (.cells #[] 3)).ownsRow w2.heap.size 3 1 (.slice (some ⟨w2.heap.size, 0, none⟩) 0 0) 0 []) := World.ownsRow_made _ #[] 0 (Nat.le_refl _) (by unfold maxLen; omega) rfl
  go_wp2_with (at_builtin; refine wpList_append_src _ rfl (.tmp 19) (.tmp 20) 33 rfl w2.heap.size 3 i0 _ 1 8 Tryd.underlying33 hi iz0 iz1 iz2 rfl (by decide) (.slice (some ⟨w2.heap.size, 0, none⟩) 0 0) 0 [] rfl HMADE.out pa path.length pc (ints path) rfl ((HK.out w2 HB2.out).2.2.2.1.src.below (mem_alloc _ _)) (ints_one _) (by unfold maxLen; omega) (by omega) (by simp) ?_)
  intro v3 w3 hown3 hgrow3 _
  obtain ⟨a3, c3, rfl⟩ := own_val hown3
  have hb3 : Below w2.heap.size w2 w3 := (mem_alloc w2 _).grown hgrow3 (by simp) (fun b hb => by cases hb; exact Nat.le_refl _)
  have HOWN3 := Lib.hid hown3
  have HB23 := Lib.hid hb3
  obtain ⟨pl, hpl2⟩ : ∃ pl, path.length = pl := ⟨_, rfl⟩
  have HPL := Lib.hid hpl2
  rw [hpl2] at HOWN3 q0 ⊢
  have hpl3 : pl ≤ 1000 := by omega
  clear hown3 hgrow3 hb3 hqlt hpl2 hpl
  go_wp2_with (at_builtin; refine wpList_append_src _ rfl (.tmp 21) (.tmp 22) 33 rfl w2.heap.size 3 i0 _ 1 8 Tryd.underlying33 hi iz0 iz1 iz2 rfl (by decide) (.slice a3 pl c3) pl (ints path) rfl (own_below HOWN3.out (mem_alloc _ _)) (some ⟨w3.heap.size, 0, none⟩) 1 1 [.int .i64 0] rfl (one_src (cs := [.int .i64 0]) (n := 1) (mem_new _ _) rfl) (by simp [Value.oneCell']) (by unfold maxLen; omega) (by omega) (by have := HB23.out.size; simp; omega) ?_)
  intro v5 w5 hown5 hgrow5 _
  obtain ⟨a5, c5, rfl⟩ := own_val hown5
  have hb5 : Below w2.heap.size w2 w5 := (mem_then HB23.out (mem_alloc w3 _)).grown hgrow5 (mem_then HB23.out (mem_alloc w3 _)).size (fun b hb => (own_lt HOWN3.out hb).1)
  obtain ⟨q2, hq2⟩ : ∃ q2, q2 = path ++ [(0 : Int)] := ⟨_, rfl⟩
  have HQ2 := Lib.hid hq2
  have hq2l : q2.length = pl + 1 := by rw [hq2, List.length_append, HPL.out]; rfl
  have HOWN5 : Hid (w5.ownsRow w2.heap.size 3 1 (.slice a5 q2.length c5) q2.length (ints q2)) := by
    show World.ownsRow _ _ _ _ _ _ _
    rw [hq2l, hq2]
    unfold ints at hown5 ⊢
    rw [List.map_append]
    exact hown5
  have HB5 : Hid (Below w.heap.size w w5) := HB2.out.trans (hb5.mono HB2.out.size)
  have HZ5 : Hid (A3.heap.size ≤ w5.heap.size) := Nat.le_trans HZ2.out hb5.size
  have HH5 := Lib.hid (HHOLE.out.below hb5 (fun k hk => hk.2))
  have HS5 : Hid (w5.heap[w.heap.size]? = some (boxObj s sna snc) ∧ w5.heap[A1.heap.size]? = some zeroPrg ∧ w5.heap[A2.heap.size]? = some (tskObj t ⟨qva, qvc, qaa, qac, a1, c1⟩)) := ⟨mem_keep HS12.out.1 hb5, mem_keep HS12.out.2.1 hb5, mem_keep HS12.out.2.2 hb5⟩
  have HAT2 : Hid (t.body.at q2 = some u) := by show _ = _; rw [hq2]; exact HAT.out
  rw [← hq2l]
  have HQL := Lib.hid hq2l
  have hq2b : q2.length ≤ 2000 := by omega
  clear hown5 hgrow5 hb5 hq2 hq2l q0 HHOLE HOWN3
  go_wp2_with fail
  go_loopw [9, 11, 25] (fun at_ _ iv wr => ∃ (j : Nat) (u1 : Tree) (b o : Nat) (a : Option Addr) (c : Nat) (S : Nat → Prop), j ≤ q2.length ∧ iv = .int .i64 (j : Int) ∧ at_ = .pointer (some ⟨b, o, none⟩) ∧ Hole w5 (fun k => A3.heap.size ≤ k ∧ k < w2.heap.size) A2.heap.size 4 t.body (q2.take j) u1 b o a c S ∧ wr = w5) (fun _ _ iv _ => q2.length - (intOf iv).toNat)
  case atStart => exact ⟨0, t.body, A2.heap.size, 4, a1, c1, _, Nat.zero_le _, rfl, rfl, by rw [List.take_zero]; exact HH5.out, rfl⟩
  case round =>
    clear HH5
    obtain ⟨j, u1, b, o, a, c, S, hj, rfl, rfl, hh, hwr⟩ := hrel
    rw [hwr]
    have HH := Lib.hid hh
    have hj0 : (0 : Int) ≤ (j : Int) := by omega
    clear hwr hh
    by_cases hlt : j < q2.length
    · have hlt2 : (j : Int) < (q2.length : Int) := by omega
      obtain ⟨i1, hi1, hi2⟩ := at_next HAT2.out hlt HH.out.at_
      obtain ⟨g, ai, ci, S', hga, _, hstep⟩ := HH.out.step hi2
      obtain ⟨rb, rfl, _, _⟩ := own_at HOWN5.out (by omega)
      have r0 : w5.cell? ⟨rb, j, none⟩ = some (.int .i64 (i1 : Int)) := own_get HOWN5.out (by unfold ints; rw [List.getElem?_map, getD_of (d := (0 : Int)) hlt, hi1]; rfl)
      have n3 := HH.out.node.kids
      rw [hga] at n3
      have hi3 : (i1 : Int) < (u1.len : Int) := by omega
      have hi4 : (0 : Int) ≤ (i1 : Int) := by omega
      have HNX : Hid (Hole w5 (fun k => A3.heap.size ≤ k ∧ k < w2.heap.size) A2.heap.size 4 t.body (q2.take (j + 1)) (u1.kid i1) g (i1 * 4) ai ci S') := by
        rw [list_take_next (d := (0 : Int)) hlt, hi1]
        exact hstep
      clear hga hstep hi1
      go_wp2_with fail
      clear r0 n3
      go_roundw
      case rel => exact ⟨j + 1, _, _, _, _, _, _, by omega, by go_num, rfl, HNX.out, trivial⟩
      case measure => simp [intOf]; omega
    · obtain rfl : j = q2.length := by omega
      have hu1 : u1 = u := by
        have h := HH.out.at_
        rw [List.take_length, HAT2.out] at h
        injection h with h
        exact h.symm
      subst hu1
      obtain ⟨x, K, hfits, hown, hblk, hkids, hsub, _⟩ := HH.out.sep.parts
      have HPT : Hid (w5.ownsRow 0 43 4 (.slice a u1.len c) u1.len (rowsTo u1.kid x u1.len) ∧ (∀ k, (Value.slice a u1.len c).ownBlock = some k → S k ∧ ∀ i, i < u1.len → ¬ K i k) ∧ (∀ i, i < u1.len → SepIn w5 (K i) (u1.kid i) (x i).1 (x i).2) ∧ (∀ i, i < u1.len → ∀ k, K i k → S k)) := ⟨hown, hblk, hkids, hsub⟩
      have hlen1 : u1.len ≤ 10000 := by
        have h1 := at_len HAT2.out
        have h2 := len_le_size u1
        omega
      have HSZ5 : Hid (A3.heap.size ≤ w5.heap.size ∧ b < w5.heap.size) := ⟨by
        have h1 := HS5.out.2.2
        have h2 := HB1.out.size
        have h3 := HB23.out.size
        have h4 := HZ5.out
        omega, HH.out.node.lt⟩
      have HBG : Hid (A2.heap.size ≤ b) := by
        rcases HH.out.pos with h | h
        · exact Nat.le_of_eq h.1.symm
        · have h := h.1
          have h2 := HLT.out
          show _ ≤ _
          omega
      clear hfits hown hblk hkids hsub
      have s0 := mem_cell HS5.out.1 0
      go_wp2_with fail
      clear s0
      refine cut_runA (RunEnd 36 11 (InsQ w5 A2.heap.size b o (Value.slice a u1.len c).ownBlock (rowsTo u1.kid x u1.len) u1.len [.int .u8 s.kind, .int .i64 s.num, .string s.name, .slice sna s.len snc])) ?_ ?_
      · have hd0 : Below w5.heap.size w5 w5.drew := (Below.refl _ _).drew
        refine wp_region_held_drew (S := fun w' => w'.heap[w.heap.size]? = some (boxObj s sna snc)) (by kernel_rfl) (mem_keep HS5.out.1 hd0) (fun hHeld => ?_)
        generalize hwd : World.drew _ = v0 at hHeld hd0 ⊢
        clear hwd
        have HV1 : Hid (Below w5.heap.size w5 (v0.alloc (.cells #[.int .u8 0, .int .i64 0, .string ⟨#[]⟩, .slice none 0 0] 43))) := mem_then hd0 (mem_alloc _ _)
        have n3 : v0.cell? ⟨b, o + 3, none⟩ = some (.slice a u1.len c) := (HH.out.node.below hd0 HSZ5.out.2).kids
        have n31 : (v0.alloc (.cells #[.int .u8 0, .int .i64 0, .string ⟨#[]⟩, .slice none 0 0] 43)).cell? ⟨b, o + 3, none⟩ = some (.slice a u1.len c) := (HH.out.node.below HV1.out HSZ5.out.2).kids
        have HSV : Hid ((v0.alloc (.cells #[.int .u8 0, .int .i64 0, .string ⟨#[]⟩, .slice none 0 0] 43)).heap[w.heap.size]? = some (boxObj s sna snc)) := mem_keep HS5.out.1 HV1.out
        clear hd0
        refine wpAnyH_take (i := 0) (v := .pointer (some ⟨b, o, none⟩)) rfl (by kernel_rfl) (by kernel_rfl) (by kernel_rfl) (fun _ _ _ h => h) (Or.inl ⟨by rfl, ?_⟩) (by assumption) ?_
        · intro w' hSw; go_simp
        (try simp only [Act.put, List.getElem_toArray, List.getElem_cons_zero, List.setIfInBounds_toArray, List.set_cons_zero, List.set_cons_succ])
        refine wpAnyH_take (i := 1) (v := .pointer (some ⟨b, o, none⟩)) rfl (by kernel_rfl) (by kernel_rfl) (by kernel_rfl) (fun _ _ _ h => h) (Or.inl ⟨by rfl, ?_⟩) (by assumption) ?_
        · intro w' hSw; go_simp
        (try simp only [Act.put, List.getElem_toArray, List.getElem_cons_zero, List.getElem_cons_succ, List.setIfInBounds_toArray, List.set_cons_zero, List.set_cons_succ])
        refine wpAnyH_take (i := 2) (v := .pointer (some ⟨b, o + 3, none⟩)) rfl (by kernel_rfl) (by kernel_rfl) (by kernel_rfl) (fun _ _ _ h => h) (Or.inl ⟨by rfl, ?_⟩) (by assumption) ?_
        · intro w' hSw; go_simp
        (try simp only [Act.put, List.getElem_toArray, List.getElem_cons_zero, List.getElem_cons_succ, List.setIfInBounds_toArray, List.set_cons_zero, List.set_cons_succ])
        refine wpAnyH_take (i := 4) (v := .agg #[.int .u8 s.kind, .int .i64 s.num, .string s.name, .slice sna s.len snc]) rfl (by kernel_rfl) (by kernel_rfl) (by kernel_rfl) (fun _ _ _ h => h) (Or.inl ⟨by rfl, ?_⟩) (by assumption) ?_
        · intro w' hSw; obtain ⟨⟨z0, z1, z2, z3⟩, _⟩ := blk4 hSw; go_simp
        (try simp only [Act.put, List.getElem_toArray, List.getElem_cons_zero, List.getElem_cons_succ, List.setIfInBounds_toArray, List.set_cons_zero, List.set_cons_succ])
        refine wpAnyH_ready (rs := [3, 6]) (by kernel_rfl) (by simp) (AllReadyH.cons rfl (fun K hK => ?_) (AllReadyH.cons rfl (fun K hK => ?_) AllReadyH.nil))
        · go_simp
          clear n3 n31
          refine hK.out _ _ (hHeld) (fun hHeld => ?_)
          clear hK K
          rename_i hOld
          clear hOld
          (try simp only [Act.put, List.getElem_toArray, List.getElem_cons_zero, List.getElem_cons_succ, List.setIfInBounds_toArray, List.set_cons_zero, List.set_cons_succ])
          refine wpAnyH_take (i := 5) (v := .int .i64 (u1.len : Int)) rfl (by kernel_rfl) (by kernel_rfl) (by kernel_rfl) (fun _ _ _ h => h) (Or.inl ⟨by rfl, ?_⟩) (by assumption) ?_
          · intro w' hSw; go_simp
          (try simp only [Act.put, List.getElem_toArray, List.getElem_cons_zero, List.getElem_cons_succ, List.setIfInBounds_toArray, List.set_cons_zero, List.set_cons_succ])
          refine wpAnyH_ready (rs := [6]) (by kernel_rfl) (by simp) (AllReadyH.cons rfl (fun K hK => ?_) AllReadyH.nil)
          go_simp
          refine hK.out _ _ (HSV.out) (fun hHeld => ?_)
          clear hK K
          rename_i hOld
          clear hOld
          (try simp only [Act.put, List.getElem_toArray, List.getElem_cons_zero, List.getElem_cons_succ, List.setIfInBounds_toArray, List.set_cons_zero, List.set_cons_succ])
          refine wpAnyH_ready (rs := [7]) (by kernel_rfl) (by simp) (AllReadyH.cons rfl (fun K hK => ?_) AllReadyH.nil)
          refine step_append_src _ rfl (.tmp 39) (.tmp 42) 41 rfl 0 43 n0 _ 4 56 Tryd.underlying41 hni nz0 nz1 nz2 rfl (by decide) (.slice a u1.len c) u1.len (rowsTo u1.kid x u1.len) (by simp [Act.eval]) (own_below HPT.out.1 HV1.out) (some ⟨v0.heap.size, 0, none⟩) 1 1 [.int .u8 0, .int .i64 0, .string ⟨#[]⟩, .slice none 0 0] (by simp [Act.eval]) (one_src (cs := [.int .u8 0, .int .i64 0, .string ⟨#[]⟩, .slice none 0 0]) (n := 1) (mem_new _ _) rfl) (by simp [Value.oneCell']) (by unfold maxLen; omega) (by omega) (Nat.zero_le _) ?_
          intro v9 w9 hown9 hgrow9 hplace
          obtain ⟨a9, c9, rfl⟩ := own_val hown9
          obtain ⟨g9, rfl, _, _⟩ := own_at hown9 (by omega)
          have hplace : (Value.slice a u1.len c).ownBlock = some g9 ∨ w5.heap.size ≤ g9 := by
            rcases hplace with h | h
            · exact .inl h.symm
            · have h : some g9 = some _ := h
              injection h with h
              exact .inr (by rw [h]; exact HV1.out.size)
          have HGN : Hid (g9 ≠ b ∧ A3.heap.size ≤ g9) := by
            rcases hplace with h | h
            · have hS := (HPT.out.2.1 g9 h).1
              exact ⟨fun e => HH.out.out (by rw [← e]; exact hS), (HH.out.sub g9 hS).1⟩
            · have h1 := HV1.out.size
              have h2 := HSZ5.out
              exact ⟨fun e => by omega, by omega⟩
          have HO9 : Hid (w9.ownsRow 0 43 4 (.slice (some ⟨g9, 0, none⟩) (u1.len + 1) c9) (u1.len + 1) (rowsTo u1.kid x u1.len ++ [.int .u8 0, .int .i64 0, .string ⟨#[]⟩, .slice none 0 0])) := hown9
          have HFR9 : Hid (∀ k, k < w5.heap.size → (Value.slice a u1.len c).ownBlock ≠ some k → w9.heap[k]? = w5.heap[k]?) := fun k hk hne => by
            have h1 := HV1.out.size
            exact (hgrow9.block k (by omega) (fun e => hne e.symm)).trans (HV1.out.block k hk)
          have HB9 : Hid (Below A2.heap.size w5 w9) := (HV1.out.mono (by have := HSZ5.out; have := HLT.out; omega)).grown hgrow9 (by have := HSZ5.out; have := HV1.out.size; have := HLT.out; omega) (fun k hk => by
            have hS := (HPT.out.2.1 k hk).1
            have := (HH.out.sub k hS).1
            have := HLT.out
            omega)
          have HBN : Hid (w9.heap[b]? = w5.heap[b]?) := HFR9.out b HSZ5.out.2 (fun e => HH.out.out (HPT.out.2.1 b e).1)
          have HG9 : Hid ((Value.slice a u1.len c).ownBlock = some g9 ∨ w5.heap.size ≤ g9) := by
            rcases hplace with h | h
            · exact .inl h
            · exact .inr h
          have HKG : Hid (∀ k, k < w5.heap.size → (Value.slice a u1.len c).ownBlock ≠ some k → ¬ ((Value.slice a u1.len c).ownBlock = some k ∨ w5.heap.size ≤ k)) := fun k hk hne h => by
            rcases h with h | h
            · exact hne h
            · omega
          clear hown9 hgrow9 hplace
          have HSX9 : Hid (w9.heap[w.heap.size]? = some (boxObj s sna snc)) := (HB9.out.block _ (by have := HLT.out; omega)).trans HS5.out.1
          refine hK.out _ _ (HSX9.out) (fun hHeld => ?_)
          clear hK K
          rename_i hOld
          clear hOld
          (try simp only [Act.put, List.getElem_toArray, List.getElem_cons_zero, List.getElem_cons_succ, List.setIfInBounds_toArray, List.set_cons_zero, List.set_cons_succ])
          have hl9 : (u1.len : Int) < ((u1.len + 1 : Nat) : Int) := by omega
          have hl8 : (u1.len : Int) < (u1.len : Int) + 1 := by omega
          refine wpAnyH_take (i := 8) (v := .pointer (some ⟨g9, u1.len * 4, none⟩)) rfl (by kernel_rfl) (by kernel_rfl) (by kernel_rfl) (fun _ _ _ h => h) (Or.inl ⟨by rfl, ?_⟩) (by assumption) ?_
          · intro w' hSw; go_simp
          (try simp only [Act.put, List.getElem_toArray, List.getElem_cons_zero, List.getElem_cons_succ, List.setIfInBounds_toArray, List.set_cons_zero, List.set_cons_succ])
          refine wpAnyH_take (i := 10) (v := .pointer (some ⟨b, o, none⟩)) rfl (by kernel_rfl) (by kernel_rfl) (by kernel_rfl) (fun _ _ _ h => h) (Or.inl ⟨by rfl, ?_⟩) (by assumption) ?_
          · intro w' hSw; go_simp
          (try simp only [Act.put, List.getElem_toArray, List.getElem_cons_zero, List.getElem_cons_succ, List.setIfInBounds_toArray, List.set_cons_zero, List.set_cons_succ])
          refine wpAnyH_take (i := 11) (v := .pointer (some ⟨b, o + 3, none⟩)) rfl (by kernel_rfl) (by kernel_rfl) (by kernel_rfl) (fun _ _ _ h => h) (Or.inl ⟨by rfl, ?_⟩) (by assumption) ?_
          · intro w' hSw; go_simp
          (try simp only [Act.put, List.getElem_toArray, List.getElem_cons_zero, List.getElem_cons_succ, List.setIfInBounds_toArray, List.set_cons_zero, List.set_cons_succ])
          have HXL : Hid ((rowsTo u1.kid x u1.len).length = u1.len * 4) := rowsTo_len _ _ _
          have gz : ∀ d v, ([.int .u8 0, .int .i64 0, .string ⟨#[]⟩, .slice none 0 0] : List Value)[d]? = some v → w9.cell? ⟨g9, u1.len * 4 + d, none⟩ = some v := fun d v hv => own_get HO9.out (by rw [List.getElem?_append_right (by rw [HXL.out]; omega), HXL.out, Nat.add_sub_cancel_left, hv])
          have r0 := gz 0 _ rfl
          have r1 := gz 1 _ rfl
          have r2 := gz 2 _ rfl
          have r3 := gz 3 _ rfl
          have fz0 := row_frzn HO9.out (u1.len * 4)
          have fz1 := row_frzn HO9.out (u1.len * 4 + 1)
          have fz2 := row_frzn HO9.out (u1.len * 4 + 2)
          have fz3 := row_frzn HO9.out (u1.len * 4 + 3)
          have nb3 : w9.cell? ⟨b, o + 3, none⟩ = some (.slice a u1.len c) := (cell_heap_eq HBN.out).trans HH.out.node.kids
          have nf3 : w9.frozen? ⟨b, o + 3, none⟩ = false := (froz_heap_eq HBN.out).trans (HH.out.free _)
          rw [Nat.add_zero] at r0
          clear gz
          refine wpAnyH_ready (rs := [9, 12]) (by kernel_rfl) (by simp) (AllReadyH.cons rfl (fun K hK => ?_) (AllReadyH.cons rfl (fun K hK => ?_) AllReadyH.nil))
          · go_simp
            obtain ⟨W1, hW1⟩ : ∃ W1 : World, set4o w9 g9 (u1.len * 4) (.int .u8 s.kind) (.int .i64 s.num) (.string s.name) (.slice sna s.len snc) = W1 := ⟨_, rfl⟩
            have HO1 : Hid (W1.ownsRow 0 43 4 (.slice (some ⟨g9, 0, none⟩) (u1.len + 1) c9) (u1.len + 1) (rowsTo u1.kid x u1.len ++ [.int .u8 s.kind, .int .i64 s.num, .string s.name, .slice sna s.len snc])) := by show World.ownsRow _ _ _ _ _ _ _; rw [← hW1]; exact set4o_own HO9.out HXL.out
            have HF1 : Hid (∀ k, k ≠ g9 → W1.heap[k]? = w9.heap[k]?) := fun k hk => by rw [← hW1]; exact set4o_far hk
            have HB1 : Hid (Below A2.heap.size w5 W1) := by show Below _ _ _; rw [← hW1]; exact set4o_below HB9.out (by have := HGN.out; have := HLT.out; omega)
            have nb1 : W1.cell? ⟨b, o + 3, none⟩ = some (.slice a u1.len c) := (cell_heap_eq (HF1.out b HGN.out.1.symm)).trans nb3
            have nf1 : W1.frozen? ⟨b, o + 3, none⟩ = false := (froz_heap_eq (HF1.out b HGN.out.1.symm)).trans nf3
            have HSX1 : Hid (W1.heap[w.heap.size]? = some (boxObj s sna snc)) := (HB1.out.block _ (by have := HLT.out; omega)).trans HS5.out.1
            unfold set4o at hW1
            rw [hW1]
            clear hW1 r0 r1 r2 r3 fz0 fz1 fz2 fz3 nb3 nf3
            refine hK.out _ _ (HSX1.out) (fun hHeld => ?_)
            clear hK K
            rename_i hOld
            clear hOld
            (try simp only [Act.put, List.getElem_toArray, List.getElem_cons_zero, List.getElem_cons_succ, List.setIfInBounds_toArray, List.set_cons_zero, List.set_cons_succ])
            refine wpAnyH_ready (rs := [12]) (by kernel_rfl) (by simp) (AllReadyH.cons rfl (fun K hK => ?_) AllReadyH.nil)
            go_simp
            obtain ⟨W2, hW2⟩ : ∃ W2 : World, W1.setCell ⟨b, o + 3, none⟩ (.slice (some ⟨g9, 0, none⟩) (u1.len + 1) c9) = W2 := ⟨_, rfl⟩
            have HQ : Hid (InsQ w5 A2.heap.size b o (Value.slice a u1.len c).ownBlock (rowsTo u1.kid x u1.len) u1.len [.int .u8 s.kind, .int .i64 s.num, .string s.name, .slice sna s.len snc] W2) := by
              refine ⟨some ⟨g9, 0, none⟩, c9, by rw [← hW2]; exact HB1.out.setCell HBG.out _, fun k j hk hne hnb => ?_, ?_, ?_⟩
              · rw [← hW2, World.cell?_setCell_other _ _ _ _ (fun e => hnb (by injection e with e1 e2; exact ⟨e1.symm, e2.symm⟩))]
                exact (cell_heap_eq (HF1.out k (fun e => HKG.out k hk hne (by rw [e]; exact HG9.out)))).trans (cell_heap_eq (HFR9.out k hk hne))
              · rw [← hW2]; exact own_keep HO1.out (fun k hk _ => Below.heap_setCell _ _ _ _ (fun e => HGN.out.1 ((Option.some.inj hk).trans e)))
              · rw [← hW2]; exact World.cell?_setCell_same _ _ _ nb1
            have HSX2 : Hid (W2.heap[w.heap.size]? = some (boxObj s sna snc)) := by
              obtain ⟨_, _, hb, _⟩ := HQ.out
              exact (hb.block _ (by have := HLT.out; omega)).trans HS5.out.1
            rw [hW2]
            clear hW2 nb1 nf1
            refine hK.out _ _ (HSX2.out) (fun hHeld => ?_)
            clear hK K
            rename_i hOld
            clear hOld
            (try simp only [Act.put, List.getElem_toArray, List.getElem_cons_zero, List.getElem_cons_succ, List.setIfInBounds_toArray, List.set_cons_zero, List.set_cons_succ])
            refine wpAnyH_done (by kernel_rfl) ?_ _
            exact ⟨[_, _, _, _, _, _, _, _, _, _, _], rfl, (by simp only [putAll, List.setIfInBounds_toArray, List.set_cons_zero, List.set_cons_succ]; rfl), HQ.out⟩
          · go_simp
            obtain ⟨W1, hW1⟩ : ∃ W1 : World, w9.setCell ⟨b, o + 3, none⟩ (.slice (some ⟨g9, 0, none⟩) (u1.len + 1) c9) = W1 := ⟨_, rfl⟩
            have HO1 : Hid (W1.ownsRow 0 43 4 (.slice (some ⟨g9, 0, none⟩) (u1.len + 1) c9) (u1.len + 1) (rowsTo u1.kid x u1.len ++ [.int .u8 0, .int .i64 0, .string ⟨#[]⟩, .slice none 0 0])) := by
              show World.ownsRow _ _ _ _ _ _ _
              rw [← hW1]
              exact own_keep HO9.out (fun k hk _ => Below.heap_setCell _ _ _ _ (fun e => by
                have hk : g9 = k := by injection hk
                exact HGN.out.1 (hk.trans e)))
            have HB1 : Hid (Below A2.heap.size w5 W1) := by show Below _ _ _; rw [← hW1]; exact HB9.out.setCell HBG.out _
            have HF1 : Hid (∀ k j, ¬ (k = b ∧ j = o + 3) → W1.cell? ⟨k, j, none⟩ = w9.cell? ⟨k, j, none⟩) := fun k j hnb => by rw [← hW1, World.cell?_setCell_other _ _ _ _ (fun e => hnb (by injection e with e1 e2; exact ⟨e1.symm, e2.symm⟩))]
            have HC1 : Hid (W1.cell? ⟨b, o + 3, none⟩ = some (.slice (some ⟨g9, 0, none⟩) (u1.len + 1) c9)) := by show _ = _; rw [← hW1]; exact World.cell?_setCell_same _ _ _ nb3
            have HSX1 : Hid (W1.heap[w.heap.size]? = some (boxObj s sna snc)) := (HB1.out.block _ (by have := HLT.out; omega)).trans HS5.out.1
            rw [hW1]
            clear hW1 r0 r1 r2 r3 fz0 fz1 fz2 fz3 nb3 nf3
            have gz : ∀ d v, ([.int .u8 0, .int .i64 0, .string ⟨#[]⟩, .slice none 0 0] : List Value)[d]? = some v → W1.cell? ⟨g9, u1.len * 4 + d, none⟩ = some v := fun d v hv => own_get HO1.out (by rw [List.getElem?_append_right (by rw [HXL.out]; omega), HXL.out, Nat.add_sub_cancel_left, hv])
            have r0 := gz 0 _ rfl
            have r1 := gz 1 _ rfl
            have r2 := gz 2 _ rfl
            have r3 := gz 3 _ rfl
            have fz0 := row_frzn HO1.out (u1.len * 4)
            have fz1 := row_frzn HO1.out (u1.len * 4 + 1)
            have fz2 := row_frzn HO1.out (u1.len * 4 + 2)
            have fz3 := row_frzn HO1.out (u1.len * 4 + 3)
            rw [Nat.add_zero] at r0
            clear gz
            refine hK.out _ _ (HSX1.out) (fun hHeld => ?_)
            clear hK K
            rename_i hOld
            clear hOld
            (try simp only [Act.put, List.getElem_toArray, List.getElem_cons_zero, List.getElem_cons_succ, List.setIfInBounds_toArray, List.set_cons_zero, List.set_cons_succ])
            refine wpAnyH_ready (rs := [9]) (by kernel_rfl) (by simp) (AllReadyH.cons rfl (fun K hK => ?_) AllReadyH.nil)
            go_simp
            obtain ⟨W2, hW2⟩ : ∃ W2 : World, set4o W1 g9 (u1.len * 4) (.int .u8 s.kind) (.int .i64 s.num) (.string s.name) (.slice sna s.len snc) = W2 := ⟨_, rfl⟩
            have HQ : Hid (InsQ w5 A2.heap.size b o (Value.slice a u1.len c).ownBlock (rowsTo u1.kid x u1.len) u1.len [.int .u8 s.kind, .int .i64 s.num, .string s.name, .slice sna s.len snc] W2) := by
              refine ⟨some ⟨g9, 0, none⟩, c9, by rw [← hW2]; exact set4o_below HB1.out (by have := HGN.out; have := HLT.out; omega), fun k j hk hne hnb => ?_, ?_, ?_⟩
              · have hkg : k ≠ g9 := fun e => HKG.out k hk hne (by rw [e]; exact HG9.out)
                rw [← hW2, cell_heap_eq (set4o_far hkg), HF1.out k j hnb]
                exact cell_heap_eq (HFR9.out k hk hne)
              · rw [← hW2]; exact set4o_own HO1.out HXL.out
              · rw [← hW2, cell_heap_eq (set4o_far HGN.out.1.symm)]; exact HC1.out
            have HSX2 : Hid (W2.heap[w.heap.size]? = some (boxObj s sna snc)) := by
              obtain ⟨_, _, hb, _⟩ := HQ.out
              exact (hb.block _ (by have := HLT.out; omega)).trans HS5.out.1
            unfold set4o at hW2
            rw [hW2]
            clear hW2 r0 r1 r2 r3 fz0 fz1 fz2 fz3
            refine hK.out _ _ (HSX2.out) (fun hHeld => ?_)
            clear hK K
            rename_i hOld
            clear hOld
            (try simp only [Act.put, List.getElem_toArray, List.getElem_cons_zero, List.getElem_cons_succ, List.setIfInBounds_toArray, List.set_cons_zero, List.set_cons_succ])
            refine wpAnyH_done (by kernel_rfl) ?_ _
            exact ⟨[_, _, _, _, _, _, _, _, _, _, _], rfl, (by simp only [putAll, List.setIfInBounds_toArray, List.set_cons_zero, List.set_cons_succ]; rfl), HQ.out⟩
        · go_simp
          refine hK.out _ _ (HSV.out) (fun hHeld => ?_)
          clear hK K
          rename_i hOld
          clear hOld
          (try simp only [Act.put, List.getElem_toArray, List.getElem_cons_zero, List.getElem_cons_succ, List.setIfInBounds_toArray, List.set_cons_zero, List.set_cons_succ])
          refine wpAnyH_ready (rs := [3]) (by kernel_rfl) (by simp) (AllReadyH.cons rfl (fun K hK => ?_) AllReadyH.nil)
          go_simp
          clear n3 n31
          refine hK.out _ _ (HSV.out) (fun hHeld => ?_)
          clear hK K
          rename_i hOld
          clear hOld
          (try simp only [Act.put, List.getElem_toArray, List.getElem_cons_zero, List.getElem_cons_succ, List.setIfInBounds_toArray, List.set_cons_zero, List.set_cons_succ])
          refine wpAnyH_take (i := 5) (v := .int .i64 (u1.len : Int)) rfl (by kernel_rfl) (by kernel_rfl) (by kernel_rfl) (fun _ _ _ h => h) (Or.inl ⟨by rfl, ?_⟩) (by assumption) ?_
          · intro w' hSw; go_simp
          (try simp only [Act.put, List.getElem_toArray, List.getElem_cons_zero, List.getElem_cons_succ, List.setIfInBounds_toArray, List.set_cons_zero, List.set_cons_succ])
          refine wpAnyH_ready (rs := [7]) (by kernel_rfl) (by simp) (AllReadyH.cons rfl (fun K hK => ?_) AllReadyH.nil)
          refine step_append_src _ rfl (.tmp 39) (.tmp 42) 41 rfl 0 43 n0 _ 4 56 Tryd.underlying41 hni nz0 nz1 nz2 rfl (by decide) (.slice a u1.len c) u1.len (rowsTo u1.kid x u1.len) (by simp [Act.eval]) (own_below HPT.out.1 HV1.out) (some ⟨v0.heap.size, 0, none⟩) 1 1 [.int .u8 0, .int .i64 0, .string ⟨#[]⟩, .slice none 0 0] (by simp [Act.eval]) (one_src (cs := [.int .u8 0, .int .i64 0, .string ⟨#[]⟩, .slice none 0 0]) (n := 1) (mem_new _ _) rfl) (by simp [Value.oneCell']) (by unfold maxLen; omega) (by omega) (Nat.zero_le _) ?_
          intro v9 w9 hown9 hgrow9 hplace
          obtain ⟨a9, c9, rfl⟩ := own_val hown9
          obtain ⟨g9, rfl, _, _⟩ := own_at hown9 (by omega)
          have hplace : (Value.slice a u1.len c).ownBlock = some g9 ∨ w5.heap.size ≤ g9 := by
            rcases hplace with h | h
            · exact .inl h.symm
            · have h : some g9 = some _ := h
              injection h with h
              exact .inr (by rw [h]; exact HV1.out.size)
          have HGN : Hid (g9 ≠ b ∧ A3.heap.size ≤ g9) := by
            rcases hplace with h | h
            · have hS := (HPT.out.2.1 g9 h).1
              exact ⟨fun e => HH.out.out (by rw [← e]; exact hS), (HH.out.sub g9 hS).1⟩
            · have h1 := HV1.out.size
              have h2 := HSZ5.out
              exact ⟨fun e => by omega, by omega⟩
          have HO9 : Hid (w9.ownsRow 0 43 4 (.slice (some ⟨g9, 0, none⟩) (u1.len + 1) c9) (u1.len + 1) (rowsTo u1.kid x u1.len ++ [.int .u8 0, .int .i64 0, .string ⟨#[]⟩, .slice none 0 0])) := hown9
          have HFR9 : Hid (∀ k, k < w5.heap.size → (Value.slice a u1.len c).ownBlock ≠ some k → w9.heap[k]? = w5.heap[k]?) := fun k hk hne => by
            have h1 := HV1.out.size
            exact (hgrow9.block k (by omega) (fun e => hne e.symm)).trans (HV1.out.block k hk)
          have HB9 : Hid (Below A2.heap.size w5 w9) := (HV1.out.mono (by have := HSZ5.out; have := HLT.out; omega)).grown hgrow9 (by have := HSZ5.out; have := HV1.out.size; have := HLT.out; omega) (fun k hk => by
            have hS := (HPT.out.2.1 k hk).1
            have := (HH.out.sub k hS).1
            have := HLT.out
            omega)
          have HBN : Hid (w9.heap[b]? = w5.heap[b]?) := HFR9.out b HSZ5.out.2 (fun e => HH.out.out (HPT.out.2.1 b e).1)
          have HG9 : Hid ((Value.slice a u1.len c).ownBlock = some g9 ∨ w5.heap.size ≤ g9) := by
            rcases hplace with h | h
            · exact .inl h
            · exact .inr h
          have HKG : Hid (∀ k, k < w5.heap.size → (Value.slice a u1.len c).ownBlock ≠ some k → ¬ ((Value.slice a u1.len c).ownBlock = some k ∨ w5.heap.size ≤ k)) := fun k hk hne h => by
            rcases h with h | h
            · exact hne h
            · omega
          clear hown9 hgrow9 hplace
          have HSX9 : Hid (w9.heap[w.heap.size]? = some (boxObj s sna snc)) := (HB9.out.block _ (by have := HLT.out; omega)).trans HS5.out.1
          refine hK.out _ _ (HSX9.out) (fun hHeld => ?_)
          clear hK K
          rename_i hOld
          clear hOld
          (try simp only [Act.put, List.getElem_toArray, List.getElem_cons_zero, List.getElem_cons_succ, List.setIfInBounds_toArray, List.set_cons_zero, List.set_cons_succ])
          have hl9 : (u1.len : Int) < ((u1.len + 1 : Nat) : Int) := by omega
          have hl8 : (u1.len : Int) < (u1.len : Int) + 1 := by omega
          refine wpAnyH_take (i := 8) (v := .pointer (some ⟨g9, u1.len * 4, none⟩)) rfl (by kernel_rfl) (by kernel_rfl) (by kernel_rfl) (fun _ _ _ h => h) (Or.inl ⟨by rfl, ?_⟩) (by assumption) ?_
          · intro w' hSw; go_simp
          (try simp only [Act.put, List.getElem_toArray, List.getElem_cons_zero, List.getElem_cons_succ, List.setIfInBounds_toArray, List.set_cons_zero, List.set_cons_succ])
          refine wpAnyH_take (i := 10) (v := .pointer (some ⟨b, o, none⟩)) rfl (by kernel_rfl) (by kernel_rfl) (by kernel_rfl) (fun _ _ _ h => h) (Or.inl ⟨by rfl, ?_⟩) (by assumption) ?_
          · intro w' hSw; go_simp
          (try simp only [Act.put, List.getElem_toArray, List.getElem_cons_zero, List.getElem_cons_succ, List.setIfInBounds_toArray, List.set_cons_zero, List.set_cons_succ])
          refine wpAnyH_take (i := 11) (v := .pointer (some ⟨b, o + 3, none⟩)) rfl (by kernel_rfl) (by kernel_rfl) (by kernel_rfl) (fun _ _ _ h => h) (Or.inl ⟨by rfl, ?_⟩) (by assumption) ?_
          · intro w' hSw; go_simp
          (try simp only [Act.put, List.getElem_toArray, List.getElem_cons_zero, List.getElem_cons_succ, List.setIfInBounds_toArray, List.set_cons_zero, List.set_cons_succ])
          have HXL : Hid ((rowsTo u1.kid x u1.len).length = u1.len * 4) := rowsTo_len _ _ _
          have gz : ∀ d v, ([.int .u8 0, .int .i64 0, .string ⟨#[]⟩, .slice none 0 0] : List Value)[d]? = some v → w9.cell? ⟨g9, u1.len * 4 + d, none⟩ = some v := fun d v hv => own_get HO9.out (by rw [List.getElem?_append_right (by rw [HXL.out]; omega), HXL.out, Nat.add_sub_cancel_left, hv])
          have r0 := gz 0 _ rfl
          have r1 := gz 1 _ rfl
          have r2 := gz 2 _ rfl
          have r3 := gz 3 _ rfl
          have fz0 := row_frzn HO9.out (u1.len * 4)
          have fz1 := row_frzn HO9.out (u1.len * 4 + 1)
          have fz2 := row_frzn HO9.out (u1.len * 4 + 2)
          have fz3 := row_frzn HO9.out (u1.len * 4 + 3)
          have nb3 : w9.cell? ⟨b, o + 3, none⟩ = some (.slice a u1.len c) := (cell_heap_eq HBN.out).trans HH.out.node.kids
          have nf3 : w9.frozen? ⟨b, o + 3, none⟩ = false := (froz_heap_eq HBN.out).trans (HH.out.free _)
          rw [Nat.add_zero] at r0
          clear gz
          refine wpAnyH_ready (rs := [9, 12]) (by kernel_rfl) (by simp) (AllReadyH.cons rfl (fun K hK => ?_) (AllReadyH.cons rfl (fun K hK => ?_) AllReadyH.nil))
          · go_simp
            obtain ⟨W1, hW1⟩ : ∃ W1 : World, set4o w9 g9 (u1.len * 4) (.int .u8 s.kind) (.int .i64 s.num) (.string s.name) (.slice sna s.len snc) = W1 := ⟨_, rfl⟩
            have HO1 : Hid (W1.ownsRow 0 43 4 (.slice (some ⟨g9, 0, none⟩) (u1.len + 1) c9) (u1.len + 1) (rowsTo u1.kid x u1.len ++ [.int .u8 s.kind, .int .i64 s.num, .string s.name, .slice sna s.len snc])) := by show World.ownsRow _ _ _ _ _ _ _; rw [← hW1]; exact set4o_own HO9.out HXL.out
            have HF1 : Hid (∀ k, k ≠ g9 → W1.heap[k]? = w9.heap[k]?) := fun k hk => by rw [← hW1]; exact set4o_far hk
            have HB1 : Hid (Below A2.heap.size w5 W1) := by show Below _ _ _; rw [← hW1]; exact set4o_below HB9.out (by have := HGN.out; have := HLT.out; omega)
            have nb1 : W1.cell? ⟨b, o + 3, none⟩ = some (.slice a u1.len c) := (cell_heap_eq (HF1.out b HGN.out.1.symm)).trans nb3
            have nf1 : W1.frozen? ⟨b, o + 3, none⟩ = false := (froz_heap_eq (HF1.out b HGN.out.1.symm)).trans nf3
            have HSX1 : Hid (W1.heap[w.heap.size]? = some (boxObj s sna snc)) := (HB1.out.block _ (by have := HLT.out; omega)).trans HS5.out.1
            unfold set4o at hW1
            rw [hW1]
            clear hW1 r0 r1 r2 r3 fz0 fz1 fz2 fz3 nb3 nf3
            refine hK.out _ _ (HSX1.out) (fun hHeld => ?_)
            clear hK K
            rename_i hOld
            clear hOld
            (try simp only [Act.put, List.getElem_toArray, List.getElem_cons_zero, List.getElem_cons_succ, List.setIfInBounds_toArray, List.set_cons_zero, List.set_cons_succ])
            refine wpAnyH_ready (rs := [12]) (by kernel_rfl) (by simp) (AllReadyH.cons rfl (fun K hK => ?_) AllReadyH.nil)
            go_simp
            obtain ⟨W2, hW2⟩ : ∃ W2 : World, W1.setCell ⟨b, o + 3, none⟩ (.slice (some ⟨g9, 0, none⟩) (u1.len + 1) c9) = W2 := ⟨_, rfl⟩
            have HQ : Hid (InsQ w5 A2.heap.size b o (Value.slice a u1.len c).ownBlock (rowsTo u1.kid x u1.len) u1.len [.int .u8 s.kind, .int .i64 s.num, .string s.name, .slice sna s.len snc] W2) := by
              refine ⟨some ⟨g9, 0, none⟩, c9, by rw [← hW2]; exact HB1.out.setCell HBG.out _, fun k j hk hne hnb => ?_, ?_, ?_⟩
              · rw [← hW2, World.cell?_setCell_other _ _ _ _ (fun e => hnb (by injection e with e1 e2; exact ⟨e1.symm, e2.symm⟩))]
                exact (cell_heap_eq (HF1.out k (fun e => HKG.out k hk hne (by rw [e]; exact HG9.out)))).trans (cell_heap_eq (HFR9.out k hk hne))
              · rw [← hW2]; exact own_keep HO1.out (fun k hk _ => Below.heap_setCell _ _ _ _ (fun e => HGN.out.1 ((Option.some.inj hk).trans e)))
              · rw [← hW2]; exact World.cell?_setCell_same _ _ _ nb1
            have HSX2 : Hid (W2.heap[w.heap.size]? = some (boxObj s sna snc)) := by
              obtain ⟨_, _, hb, _⟩ := HQ.out
              exact (hb.block _ (by have := HLT.out; omega)).trans HS5.out.1
            rw [hW2]
            clear hW2 nb1 nf1
            refine hK.out _ _ (HSX2.out) (fun hHeld => ?_)
            clear hK K
            rename_i hOld
            clear hOld
            (try simp only [Act.put, List.getElem_toArray, List.getElem_cons_zero, List.getElem_cons_succ, List.setIfInBounds_toArray, List.set_cons_zero, List.set_cons_succ])
            refine wpAnyH_done (by kernel_rfl) ?_ _
            exact ⟨[_, _, _, _, _, _, _, _, _, _, _], rfl, (by simp only [putAll, List.setIfInBounds_toArray, List.set_cons_zero, List.set_cons_succ]; rfl), HQ.out⟩
          · go_simp
            obtain ⟨W1, hW1⟩ : ∃ W1 : World, w9.setCell ⟨b, o + 3, none⟩ (.slice (some ⟨g9, 0, none⟩) (u1.len + 1) c9) = W1 := ⟨_, rfl⟩
            have HO1 : Hid (W1.ownsRow 0 43 4 (.slice (some ⟨g9, 0, none⟩) (u1.len + 1) c9) (u1.len + 1) (rowsTo u1.kid x u1.len ++ [.int .u8 0, .int .i64 0, .string ⟨#[]⟩, .slice none 0 0])) := by
              show World.ownsRow _ _ _ _ _ _ _
              rw [← hW1]
              exact own_keep HO9.out (fun k hk _ => Below.heap_setCell _ _ _ _ (fun e => by
                have hk : g9 = k := by injection hk
                exact HGN.out.1 (hk.trans e)))
            have HB1 : Hid (Below A2.heap.size w5 W1) := by show Below _ _ _; rw [← hW1]; exact HB9.out.setCell HBG.out _
            have HF1 : Hid (∀ k j, ¬ (k = b ∧ j = o + 3) → W1.cell? ⟨k, j, none⟩ = w9.cell? ⟨k, j, none⟩) := fun k j hnb => by rw [← hW1, World.cell?_setCell_other _ _ _ _ (fun e => hnb (by injection e with e1 e2; exact ⟨e1.symm, e2.symm⟩))]
            have HC1 : Hid (W1.cell? ⟨b, o + 3, none⟩ = some (.slice (some ⟨g9, 0, none⟩) (u1.len + 1) c9)) := by show _ = _; rw [← hW1]; exact World.cell?_setCell_same _ _ _ nb3
            have HSX1 : Hid (W1.heap[w.heap.size]? = some (boxObj s sna snc)) := (HB1.out.block _ (by have := HLT.out; omega)).trans HS5.out.1
            rw [hW1]
            clear hW1 r0 r1 r2 r3 fz0 fz1 fz2 fz3 nb3 nf3
            have gz : ∀ d v, ([.int .u8 0, .int .i64 0, .string ⟨#[]⟩, .slice none 0 0] : List Value)[d]? = some v → W1.cell? ⟨g9, u1.len * 4 + d, none⟩ = some v := fun d v hv => own_get HO1.out (by rw [List.getElem?_append_right (by rw [HXL.out]; omega), HXL.out, Nat.add_sub_cancel_left, hv])
            have r0 := gz 0 _ rfl
            have r1 := gz 1 _ rfl
            have r2 := gz 2 _ rfl
            have r3 := gz 3 _ rfl
            have fz0 := row_frzn HO1.out (u1.len * 4)
            have fz1 := row_frzn HO1.out (u1.len * 4 + 1)
            have fz2 := row_frzn HO1.out (u1.len * 4 + 2)
            have fz3 := row_frzn HO1.out (u1.len * 4 + 3)
            rw [Nat.add_zero] at r0
            clear gz
            refine hK.out _ _ (HSX1.out) (fun hHeld => ?_)
            clear hK K
            rename_i hOld
            clear hOld
            (try simp only [Act.put, List.getElem_toArray, List.getElem_cons_zero, List.getElem_cons_succ, List.setIfInBounds_toArray, List.set_cons_zero, List.set_cons_succ])
            refine wpAnyH_ready (rs := [9]) (by kernel_rfl) (by simp) (AllReadyH.cons rfl (fun K hK => ?_) AllReadyH.nil)
            go_simp
            obtain ⟨W2, hW2⟩ : ∃ W2 : World, set4o W1 g9 (u1.len * 4) (.int .u8 s.kind) (.int .i64 s.num) (.string s.name) (.slice sna s.len snc) = W2 := ⟨_, rfl⟩
            have HQ : Hid (InsQ w5 A2.heap.size b o (Value.slice a u1.len c).ownBlock (rowsTo u1.kid x u1.len) u1.len [.int .u8 s.kind, .int .i64 s.num, .string s.name, .slice sna s.len snc] W2) := by
              refine ⟨some ⟨g9, 0, none⟩, c9, by rw [← hW2]; exact set4o_below HB1.out (by have := HGN.out; have := HLT.out; omega), fun k j hk hne hnb => ?_, ?_, ?_⟩
              · have hkg : k ≠ g9 := fun e => HKG.out k hk hne (by rw [e]; exact HG9.out)
                rw [← hW2, cell_heap_eq (set4o_far hkg), HF1.out k j hnb]
                exact cell_heap_eq (HFR9.out k hk hne)
              · rw [← hW2]; exact set4o_own HO1.out HXL.out
              · rw [← hW2, cell_heap_eq (set4o_far HGN.out.1.symm)]; exact HC1.out
            have HSX2 : Hid (W2.heap[w.heap.size]? = some (boxObj s sna snc)) := by
              obtain ⟨_, _, hb, _⟩ := HQ.out
              exact (hb.block _ (by have := HLT.out; omega)).trans HS5.out.1
            unfold set4o at hW2
            rw [hW2]
            clear hW2 r0 r1 r2 r3 fz0 fz1 fz2 fz3
            refine hK.out _ _ (HSX2.out) (fun hHeld => ?_)
            clear hK K
            rename_i hOld
            clear hOld
            (try simp only [Act.put, List.getElem_toArray, List.getElem_cons_zero, List.getElem_cons_succ, List.setIfInBounds_toArray, List.set_cons_zero, List.set_cons_succ])
            refine wpAnyH_done (by kernel_rfl) ?_ _
            exact ⟨[_, _, _, _, _, _, _, _, _, _, _], rfl, (by simp only [putAll, List.setIfInBounds_toArray, List.set_cons_zero, List.set_cons_succ]; rfl), HQ.out⟩
      · rintro a' w9 ⟨ll, hll2, rfl, hq⟩
        obtain ⟨l0, l1, l2, l3, l4, l5, l6, l7, l8, l9, l10, rfl⟩ := list11i hll2
        simp only [putAll, List.setIfInBounds_toArray, List.set_cons_zero, List.set_cons_succ]
        obtain ⟨a9, c9, hbq, hfr, hrow, hcell⟩ := hq
        have HB9 : Hid (Below w.heap.size w w9) := HB5.out.trans (hbq.mono (by have := HLT.out; omega))
        obtain ⟨a4, c4, hnode, hrep⟩ := HH.out.insert (s := s) (sa := sna) (sc := snc) HPT.out.2.1 HPT.out.2.2.1 HPT.out.2.2.2 (by omega) hfr hrow hcell (HK.out w9 HB9.out).2.2.2.2.2.2.2.2
        have hbody : T2.body = repAt t.body (q2.take q2.length) (addKid u1 s) := by rw [← HT2.out, List.take_length, HQ2.out]; rfl
        have hob : ∀ k, (Value.slice a u1.len c).ownBlock = some k → k ≠ A2.heap.size := fun k hk e => by
          have h := (HH.out.sub k (HPT.out.2.1 k hk).1).1
          have := HLT.out
          omega
        have hA2 : A2.heap.size < w5.heap.size := mem_lt HS5.out.2.2
        have hcl : ∀ j, j < 4 → w9.cell? ⟨A2.heap.size, j, none⟩ = w5.cell? ⟨A2.heap.size, j, none⟩ := fun j hj => hfr A2.heap.size j hA2 (fun e => hob _ e rfl) (fun e => by
          rcases HH.out.pos with h | h
          · have h1 := h.2; have h2 := e.2; omega
          · have h1 := h.1; have h2 := e.1; have := HLT.out; omega)
        have u0 := (hcl 0 (by omega)).trans (mem_cell HS5.out.2.2 0)
        have u1' := (hcl 1 (by omega)).trans (mem_cell HS5.out.2.2 1)
        have u2 := (hcl 2 (by omega)).trans (mem_cell HS5.out.2.2 2)
        have u3 := (hcl 3 (by omega)).trans (mem_cell HS5.out.2.2 3)
        rw [← hbody] at hnode hrep
        obtain ⟨u4, u5, u6, u7⟩ := hnode
        simp only [Tsk.cells, List.getElem?_toArray, List.getElem?_cons_zero, List.getElem?_cons_succ] at u0 u1' u2 u3
        obtain ⟨_, hti9, _, _, hpb9, hp9, hib9, _, _⟩ := HK.out w9 HB9.out
        have HT9 : Hid (TskIn w9 T2 ⟨qva, qvc, qaa, qac, a4, c4⟩) := by
          have e1 : T2.name = t.name := by rw [← HT2.out]; rfl
          have e2 : T2.period = t.period := by rw [← HT2.out]; rfl
          have e3 : T2.vars = t.vars := by rw [← HT2.out]; rfl
          have e4 : T2.arrays = t.arrays := by rw [← HT2.out]; rfl
          exact ⟨by rw [e1]; exact hti9.name, by rw [e2]; exact hti9.period, by rw [e3]; exact hti9.vars, by rw [e4]; exact hti9.arrays, hrep⟩
        have HP9 := Lib.hid hp9
        have HR9 : Hid (w9.heap[A1.heap.size]? = some zeroPrg) := (hbq.block _ (by have := HLT.out; omega)).trans HS5.out.2.1
        have p0 := mem_cell hpb9 0
        have p1 := mem_cell hpb9 1
        have i0' := mem_cell hib9 0
        simp only [List.getElem?_toArray, List.getElem?_cons_zero, List.getElem?_cons_succ] at p0 p1 i0'
        have E1 : T2.name = t.name := by rw [← HT2.out]; rfl
        have E2 : T2.period = t.period := by rw [← HT2.out]; rfl
        have E3 : T2.vars = t.vars := by rw [← HT2.out]; rfl
        have E4 : T2.arrays = t.arrays := by rw [← HT2.out]; rfl
        have HCE : Hid (T2.cells ⟨qva, qvc, qaa, qac, a4, c4⟩ = #[.string t.name, .int .i64 t.period, .slice qva t.vars.length qvc, .slice qaa t.arrays.length qac, .int .u8 T2.body.kind, .int .i64 T2.body.num, .string T2.body.name, .slice a4 T2.body.len c4]) := by
          show _ = _
          unfold Tsk.cells
          rw [E1, E2, E3, E4]
        have hfl := hrep.fits.len
        have hp9s := hp9.1.1
        have hp9t := hp9.2.1
        have H8 : Hid (Calls Tryd.prog 22 #[p.val sa sc ta tc, .int .i64 (i : Int), .agg #[.string t.name, .int .i64 t.period, .slice qva t.vars.length qvc, .slice qaa t.arrays.length qac, .int .u8 T2.body.kind, .int .i64 T2.body.num, .string T2.body.name, .slice a4 T2.body.len c4]] w9 fun e w' => ∃ ta' tc', e = .returned ((swapP p i T2).val sa sc ta' tc') ∧ PrgAt w' (swapP p i T2) sa ta' ∧ Below w9.heap.size w9 w') := by
          have h := swap_any p i T2 ⟨qva, qvc, qaa, qac, a4, c4⟩ w9 sa ta sc tc HP9.out HT9.out hil h8
          rw [HCE.out] at h
          exact h
        clear hll2 hbq hfr hrow hcell hrep hbody hob hcl hti9 hpb9 hp9 hib9 E1 E2 E3 E4
        go_wp2_with fail
        clear u0 u1' u2 u3 u4 u5 u6 u7 p0 p1 i0'
        have h9 := H8.out
        refine h9.mono ?_
        clear h9
        rintro e w10 ⟨ta', tc', rfl, hp10, hb10⟩
        have HW10 : Hid (w9.heap.size ≤ w10.heap.size) := hb10.size
        obtain ⟨E, hE⟩ : ∃ E : World, w10.alloc (prgObj (swapP p i T2) sa sc ta' tc') = E := ⟨_, rfl⟩
        have hBE : Below w10.heap.size w10 E := by rw [← hE]; exact mem_alloc _ _
        have HXE : Hid (E.heap[w10.heap.size]? = some (prgObj (swapP p i T2) sa sc ta' tc')) := by show _ = _; rw [← hE]; exact mem_new _ _
        have HPE := Lib.hid (hp10.below hBE)
        have HBE : Hid (Below w9.heap.size w9 E) := mem_then hb10 hBE
        have HBE0 : Hid (Below w.heap.size w E) := HB9.out.trans (HBE.out.mono HB9.out.size)
        have HRE : Hid (E.heap[A1.heap.size]? = some zeroPrg) := mem_keep HR9.out HBE.out
        clear hp10 hb10 hBE
        go_wp2_with fail
        clear hE
        refine cut_runA (RunEndI 51 3 7 (fun v w' => v = .bool (prgOk (swapP p i T2)) ∧ w'.cell? ⟨A1.heap.size, 0, none⟩ = some (.slice sa (swapP p i T2).shared.length sc) ∧ w'.cell? ⟨A1.heap.size, 1, none⟩ = some (.slice ta' (swapP p i T2).tasks.length tc') ∧ PrgAt w' (swapP p i T2) sa ta' ∧ Below w.heap.size w w')) ?_ ?_
        · have hd0 : Below E.heap.size E E.drew := (Below.refl _ _).drew
          refine wp_region_held_drew (S := fun w' => w'.heap[w10.heap.size]? = some (prgObj (swapP p i T2) sa sc ta' tc')) (by kernel_rfl) (mem_keep HXE.out hd0) (fun hHeld => ?_)
          generalize hwd : World.drew _ = v0 at hHeld hd0 ⊢
          clear hwd
          have HD0 := Lib.hid hd0
          clear hd0
          refine wpAnyH_take (i := 0) (v := .agg #[.slice sa (swapP p i T2).shared.length sc, .slice ta' (swapP p i T2).tasks.length tc']) rfl (by kernel_rfl) (by kernel_rfl) (by kernel_rfl) (fun _ _ _ h => h) (Or.inl ⟨by rfl, ?_⟩) (by assumption) ?_
          · intro w' hSw; have z0 := mem_cell hSw 0; have z1 := mem_cell hSw 1; simp only [List.getElem?_toArray, List.getElem?_cons_zero, List.getElem?_cons_succ] at z0 z1; go_simp
          (try simp only [Act.put, List.getElem_toArray, List.getElem_cons_zero, List.setIfInBounds_toArray, List.set_cons_zero, List.set_cons_succ])
          refine wpAnyH_take (i := 1) (v := .agg #[.slice sa (swapP p i T2).shared.length sc, .slice ta' (swapP p i T2).tasks.length tc']) rfl (by kernel_rfl) (by kernel_rfl) (by kernel_rfl) (fun _ _ _ h => h) (Or.inl ⟨by rfl, ?_⟩) (by assumption) ?_
          · intro w' hSw; have z0 := mem_cell hSw 0; have z1 := mem_cell hSw 1; simp only [List.getElem?_toArray, List.getElem?_cons_zero, List.getElem?_cons_succ] at z0 z1; go_simp
          (try simp only [Act.put, List.getElem_toArray, List.getElem_cons_zero, List.getElem_cons_succ, List.setIfInBounds_toArray, List.set_cons_zero, List.set_cons_succ])
          refine wpAnyH_ready (rs := [2]) (by kernel_rfl) (by simp) (AllReadyH.cons rfl (fun K hK => ?_) AllReadyH.nil)
          go_simp
          have h9 := valid_any (swapP p i T2) v0 sa ta' sc tc' (HPE.out.below HD0.out) ((HK.out E HBE0.out).2.2.2.2.2.2.2.1.below HD0.out)
          refine h9.mono ?_
          clear h9
          rintro e w11 ⟨rfl, hb11⟩
          have HB11 : Hid (Below E.heap.size E w11) := mem_then HD0.out hb11
          have hr11 := mem_keep HRE.out HB11.out
          have z0 := mem_cell hr11 0
          have z1 := mem_cell hr11 1
          have f0 := mem_free hr11 0
          have f1 := mem_free hr11 1
          simp only [List.getElem?_toArray, List.getElem?_cons_zero, List.getElem?_cons_succ] at z0 z1
          clear hb11
          refine hK.out _ _ (mem_keep HXE.out HB11.out) (fun hHeld => ?_)
          clear hK K
          rename_i hOld
          clear hOld
          (try simp only [Act.put, List.getElem_toArray, List.getElem_cons_zero, List.getElem_cons_succ, List.setIfInBounds_toArray, List.set_cons_zero, List.set_cons_succ])
          refine wpAnyH_ready (rs := [3]) (by kernel_rfl) (by simp) (AllReadyH.cons rfl (fun K hK => ?_) AllReadyH.nil)
          go_simp
          obtain ⟨W, hW⟩ : ∃ W : World, (w11.setCell ⟨A1.heap.size, 0, none⟩ (.slice sa (swapP p i T2).shared.length sc)).setCell ⟨A1.heap.size, 1, none⟩ (.slice ta' (swapP p i T2).tasks.length tc') = W := ⟨_, rfl⟩
          have HWX : Hid (W.heap[A1.heap.size]? = some (prgObj (swapP p i T2) sa sc ta' tc')) := by show _ = _; rw [← hW, mem_set (mem_set hr11)]; rfl
          have HWO : Hid (∀ k, k ≠ A1.heap.size → W.heap[k]? = w11.heap[k]?) := fun k hk => by rw [← hW, Below.heap_setCell _ _ _ _ hk, Below.heap_setCell _ _ _ _ hk]
          have HAE : Hid (A1.heap.size < w9.heap.size ∧ w.heap.size ≤ A1.heap.size) := ⟨mem_lt HR9.out, by have := HLT.out; omega⟩
          have HWB : Hid (Below w.heap.size w W) := by
            show Below _ _ _
            rw [← hW]
            exact ((HBE0.out.trans (HB11.out.mono HBE0.out.size)).setCell (p := ⟨A1.heap.size, 0, none⟩) HAE.out.2 _).setCell (p := ⟨A1.heap.size, 1, none⟩) HAE.out.2 _
          rw [hW]
          clear hW hr11 z0 z1 f0 f1
          have HWP : Hid (PrgAt W (swapP p i T2) sa ta') := off_prg (dull_of (mem_keep HRE.out HB11.out)) (fun k hk => HWO.out k hk) (HPE.out.below HB11.out)
          have HWQ : Hid (W.heap[w10.heap.size]? = some (prgObj (swapP p i T2) sa sc ta' tc')) := (HWO.out _ (by have := HAE.out.1; have := HW10.out; omega)).trans (mem_keep HXE.out HB11.out)
          refine hK.out _ _ (HWQ.out) (fun hHeld => ?_)
          clear hK K
          rename_i hOld
          clear hOld
          (try simp only [Act.put, List.getElem_toArray, List.getElem_cons_zero, List.getElem_cons_succ, List.setIfInBounds_toArray, List.set_cons_zero, List.set_cons_succ])
          refine wpAnyH_ready (rs := [4]) (by kernel_rfl) (by simp) (AllReadyH.cons rfl (fun K hK => ?_) AllReadyH.nil)
          go_simp
          refine hK.out _ _ (HWQ.out) (fun hHeld => ?_)
          clear hK K
          rename_i hOld
          clear hOld
          (try simp only [Act.put, List.getElem_toArray, List.getElem_cons_zero, List.getElem_cons_succ, List.setIfInBounds_toArray, List.set_cons_zero, List.set_cons_succ])
          refine wpAnyH_done (by kernel_rfl) ?_ _
          exact ⟨[_, _, _], _, rfl, (by simp only [putAll, List.setIfInBounds_toArray, List.set_cons_zero, List.set_cons_succ]; rfl), rfl, mem_cell HWX.out 0, mem_cell HWX.out 1, HWP.out, HWB.out⟩
        · rintro a' w12 ⟨ll, vv, hll2, rfl, rfl, z0, z1, hp12, hb12⟩
          obtain ⟨m0, m1, m2, rfl⟩ := list3i hll2
          simp only [putAll, List.setIfInBounds_toArray, List.set_cons_zero, List.set_cons_succ]
          have HP12 := Lib.hid hp12
          have HB12 := Lib.hid hb12
          clear hll2 hp12 hb12
          go_wp2_with fail
          refine bodyPost_ret (v := .tuple #[.agg #[.slice sa (swapP p i T2).shared.length sc, .slice ta' (swapP p i T2).tasks.length tc'], .bool (prgOk (swapP p i T2))]) (by simp [results, Tryd.results40, go_sem, z0, z1]) rfl ?_
          exact ⟨ta', tc', rfl, HP12.out, HB12.out⟩
end Go.Proofs.YtnegdmhmhdojbaaDoor
