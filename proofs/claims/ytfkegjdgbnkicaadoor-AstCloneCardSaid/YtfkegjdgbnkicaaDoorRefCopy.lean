/-
  Contract: the reference's Copy returns an equal tree in new memory that may be written (package ontimeref12).
-/
import Derived.Test.YtfkegjdgbnkicaaDoorAstClone
import Derived.Test.YtfkegjdgbnkicaaDoorStepAppend
import Derived.Test.YtfkegjdgbnkicaaDoorRangeWp
import Derived.Deep.RegionHeld3
import Derived.Lib.Hide
import Derived.LoopTactic
import Derived.Outline
namespace Go.Proofs.YtfkegjdgbnkicaaDoor
open Go.RowKit
set_option maxRecDepth 100000

/-- no cell of a block is frozen -/
def FreeB (w : World) (k : Nat) : Prop := ∀ o, w.frozen? ⟨k, o, none⟩ = false
theorem FreeB.same {w w' : World} {k : Nat} (h : FreeB w k) (he : w'.heap[k]? = w.heap[k]?) : FreeB w' k := fun o => (frozen_of_block he).trans (h o)

/-- a copy of a tree in new memory that may be written, nothing that was there turned -/
def CopyFree (t : Tree) (w : World) (e : Ending) (w' : World) : Prop :=
  ∃ a c, e = .returned (t.val a c) ∧ RepIn (fun k => w.heap.size ≤ k ∧ FreeB w' k) w' t a ∧ Below w.heap.size w w'

/-- between two rounds of Copy's loop -/
structure CpIn (t : Tree) (a : Option Addr) (c : Nat) (w : World) (j : Nat) (x : Nat → Option Addr × Nat) (v : Value) (wr : World) : Prop where
  own : wr.ownsRow (w.heap.size + 3) 24 4 v j (rowsTo t.kid x j)
  reps : ∀ i, i < j → RepIn (fun k => w.heap.size + 3 ≤ k ∧ v.ownBlock ≠ some k ∧ FreeB wr k) wr (t.kid i) (x i).1
  box : wr.heap[w.heap.size + 1 + 1]? = some (.cells #[.int .u8 t.kind, .int .i64 t.num, .string t.name, v] 24)
  bel : Below (w.heap.size + 2) ((w.alloc (.cells #[.int .u8 t.kind, .int .i64 t.num, .string t.name, .slice a t.len c] 24)).alloc (.cells #[.int .u8 0, .int .i64 0, .string ⟨#[]⟩, .slice none 0 0] 24)) wr

/-- a block of four cells, one of them stored -/
theorem four_set3 {w : World} {b : Nat} {c0 c1 c2 c3 u : Value} {t : TypeId} (h : w.heap[b]? = some (.cells #[c0, c1, c2, c3] t (0, 0))) : (w.setCell ⟨b, 3, none⟩ u).heap[b]? = some (.cells #[c0, c1, c2, u] t (0, 0)) := by
  have hlt := lt_of_block h
  have h' : w.heap[b] = .cells #[c0, c1, c2, c3] t (0, 0) := by simpa [Array.getElem?_eq_getElem hlt] using h
  show (w.heap.modify b _)[b]? = _
  rw [Array.getElem?_eq_getElem (by simpa using hlt), Array.getElem_modify_self, h']
  rfl
theorem four_cell3 {w : World} {b : Nat} {c0 c1 c2 c3 : Value} {t : TypeId} (h : w.heap[b]? = some (.cells #[c0, c1, c2, c3] t (0, 0))) : w.cell? ⟨b, 3, none⟩ = some c3 := by simp [World.cell?, h]
theorem four_free {w : World} {b : Nat} {c0 c1 c2 c3 : Value} {t : TypeId} (h : w.heap[b]? = some (.cells #[c0, c1, c2, c3] t (0, 0))) : FreeB w b := fun o => by simp [World.frozen?, h]
theorem row_new (w1 : World) (t : Tree) (a : Option Addr) (c : Nat) (k : Nat) (u : Value) (hu : (t.row (a, c))[k]? = some u) :
    (w1.alloc (.cells #[.int .u8 t.kind, .int .i64 t.num, .string t.name, .slice a t.len c] 24)).cell? ((⟨w1.heap.size, 0, none⟩ : Addr).add k) = some u := by
  match k, hu with
  | 0, hu => simp [Tree.row] at hu; subst hu; exact World.cell?_alloc_new _ _ _ 0
  | 1, hu => simp [Tree.row] at hu; subst hu; exact World.cell?_alloc_new _ _ _ 1
  | 2, hu => simp [Tree.row] at hu; subst hu; exact World.cell?_alloc_new _ _ _ 2
  | 3, hu => simp [Tree.row] at hu; subst hu; exact World.cell?_alloc_new _ _ _ 3
  | k + 4, hu => simp [Tree.row] at hu
theorem ownsRow_free {w : World} {base : Nat} {e : TypeId} {size : Nat} {v : Value} {n : Nat} {xs : List Value} (h : w.ownsRow base e size v n xs) {k : Nat} (hk : v.ownBlock = some k) : FreeB w k := by
  rcases h.2 with ⟨rfl, _⟩ | ⟨g, cap, cur, rfl, hg, hc, r⟩
  · cases hk
  · obtain rfl : g = k := by simpa [Value.ownBlock] using hk
    intro o; simp [World.frozen?, hc]

theorem CpIn.size {t : Tree} {a : Option Addr} {c : Nat} {w : World} {j : Nat} {x : Nat → Option Addr × Nat} {v : Value} {wr : World} (h : CpIn t a c w j x v wr) : w.heap.size + 3 ≤ wr.heap.size := lt_of_block h.box
theorem CpIn.old {t : Tree} {a : Option Addr} {c : Nat} {w : World} {j : Nat} {x : Nat → Option Addr × Nat} {v : Value} {wr : World} (h : CpIn t a c w j x v wr) : Below w.heap.size w wr :=
  (((Below.refl _ w).alloc (Nat.le_refl _) _).alloc (by simp) _).trans (h.bel.mono (by omega))
/-- what a round leaves of the box -/
theorem CpIn.boxAt {t : Tree} {a : Option Addr} {c : Nat} {w : World} {j : Nat} {x : Nat → Option Addr × Nat} {v : Value} {wr w1 w2 : World} {o : Obj} (h : CpIn t a c w j x v wr) (hB1 : Below wr.heap.size wr w1) (hgrow : (w1.alloc o).grownBy w2 v.ownBlock) :
    w2.heap[w.heap.size + 1 + 1]? = some (.cells #[.int .u8 t.kind, .int .i64 t.num, .string t.name, v] 24) := by
  have hsz := h.size
  have hs1 := hB1.size
  rw [hgrow.block _ (by simp; omega) (fun e => by have := (h.own.lt _ e.symm).1; omega), Below.heap_alloc _ _ _ (by omega), hB1.block _ (by omega)]
  exact h.box
theorem CpIn.step {t : Tree} {a : Option Addr} {c : Nat} {w : World} {j : Nat} {x : Nat → Option Addr × Nat} {v : Value} {wr w1 w2 : World} {a' : Option Addr} {c' g cap : Nat} {o : Obj} (h : CpIn t a c w j x v wr)
    (hcopy : RepIn (fun k => wr.heap.size ≤ k ∧ FreeB w1 k) w1 (t.kid j) a') (hB1 : Below wr.heap.size wr w1)
    (hown2 : w2.ownsRow (w.heap.size + 3) 24 4 (.slice (some ⟨g, 0, none⟩) (j + 1) cap) (j + 1) (rowsTo t.kid x j ++ (t.kid j).row (a', c')))
    (hgrow : (w1.alloc o).grownBy w2 v.ownBlock) (hplace : v.ownBlock = some g ∨ (w1.alloc o).heap.size ≤ g) :
    CpIn t a c w (j + 1) (fun i => if i = j then (a', c') else x i) (.slice (some ⟨g, 0, none⟩) (j + 1) cap) (w2.setCell ⟨w.heap.size + 1 + 1, 3, none⟩ (.slice (some ⟨g, 0, none⟩) (j + 1) cap)) := by
  have hsz := h.size
  have hs1 := hB1.size
  have hvl : ∀ k, v.ownBlock = some k → w.heap.size + 3 ≤ k ∧ k < wr.heap.size := h.own.lt
  have hbox := h.boxAt hB1 hgrow
  have hrow : rowsTo t.kid x j ++ (t.kid j).row (a', c') = rowsTo t.kid (fun i => if i = j then (a', c') else x i) (j + 1) := by
    show _ = rowsTo t.kid _ j ++ _
    rw [rowsTo_congr (x := x) (y := fun i => if i = j then (a', c') else x i) (fun i hi => by rw [if_neg (by omega)])]
    simp
  rw [hrow] at hown2
  have hgb := (hown2.lt g rfl).1
  have hset : ∀ k, w.heap.size + 3 ≤ k → (w2.setCell ⟨w.heap.size + 1 + 1, 3, none⟩ (.slice (some ⟨g, 0, none⟩) (j + 1) cap)).heap[k]? = w2.heap[k]? := fun k hk =>
    Below.heap_setCell _ _ _ _ (by show k ≠ w.heap.size + 1 + 1; omega)
  have hnew : ∀ k, wr.heap.size ≤ k → k < w1.heap.size → w2.heap[k]? = w1.heap[k]? := fun k h1 h2 => by
    rw [hgrow.block k (by simp; omega) (fun e => by have := (hvl k e.symm).2; omega), Below.heap_alloc _ _ _ h2]
  have hold : ∀ k, k < wr.heap.size → v.ownBlock ≠ some k → w2.heap[k]? = wr.heap[k]? := fun k h1 h2 => by
    rw [hgrow.block k (by simp; omega) (fun e => h2 e.symm), Below.heap_alloc _ _ _ (by omega), hB1.block k h1]
  refine ⟨ownsRow_setCell_other hown2 (by show some g ≠ some (w.heap.size + 1 + 1); intro e; cases e; omega) _, fun i hi => ?_, four_set3 hbox, ?_⟩
  · by_cases e : i = j
    · subst e
      simp only [if_true]
      refine hcopy.move (fun k hk hl => (hset k (by omega)).trans (hnew k hk.1 hl)) (fun k hk hl => ⟨by omega, fun e => ?_, hk.2.same ((hset k (by omega)).trans (hnew k hk.1 hl))⟩)
      have hgk : g = k := by simpa [Value.ownBlock] using e
      rcases hplace with h | h
      · have := (hvl _ h).2; omega
      · simp at h; omega
    · simp only [if_neg e]
      refine (h.reps i (by omega)).move (fun k hk hl => (hset k hk.1).trans (hold k hl hk.2.1)) (fun k hk hl => ⟨hk.1, fun e => ?_, hk.2.2.same ((hset k hk.1).trans (hold k hl hk.2.1))⟩)
      have hgk : g = k := by simpa [Value.ownBlock] using e
      rcases hplace with h | h
      · exact hk.2.1 (by rw [h, hgk])
      · simp at h; omega
  · refine ((((h.bel.trans (hB1.mono (by omega))).alloc (by omega) o).grown hgrow (by simp; omega) (fun k hk => by have := (hvl k hk).1; omega))).setCell (p := ⟨w.heap.size + 1 + 1, 3, none⟩) (by show w.heap.size + 2 ≤ w.heap.size + 1 + 1; omega) _

set_option maxHeartbeats 1000000 in
theorem refCopy_any : ∀ (t : Tree) (w : World) (a : Option Addr) (c : Nat), Rep w t a → t.size ≤ 1000000 →
    Calls Tryd.prog 33 #[t.val a c] w (CopyFree t w) := by
  intro t
  induction t using Tree.ind with
  | h t ih =>
    intro w a c hv hs
    obtain ⟨i0, hi, hz0, hz1, hz2⟩ := info_parts Tryd.infoNode
    have IH := Lib.hid ih
    clear ih
    have hfit := hv.fits
    have hl := hfit.len
    have HFIT := Lib.hid hfit
    have HK := Lib.hid hv.kids
    clear hv hfit
    have hls : t.len ≤ 1000000 := by
      have := Tree.size_eq t
      have h2 : ∀ (f : Nat → Nat) (n : Nat), (∀ i, 1 ≤ f i) → n ≤ Tree.sumTo f n := by
        intro f n hf
        induction n with
        | zero => exact Nat.zero_le _
        | succ n ihn => rw [Tree.sumTo_succ]; have := hf n; omega
      have := h2 (fun i => (t.kid i).size) t.len (fun i => Tree.size_pos _)
      omega
    have HSZ : Hid (∀ j, j < t.len → (t.kid j).size ≤ 1000000) := fun j hj => by have := Tree.size_kid hj; omega
    clear hs
    go_enter Tryd.func33, Tryd.ntmps33
    go_wp2_with fail
    go_loopw [4] (fun i wr => ∃ (j : Nat) (x : Nat → Option Addr × Nat) (v : Value), j ≤ t.len ∧ i = .int .i64 j ∧ CpIn t a c w j x v wr) (fun i _ => t.len - (intOf i).toNat)
    case atStart =>
      refine ⟨0, fun _ => (none, 0), .slice none 0 0, Nat.zero_le _, rfl, World.ownsRow_nil _ _ _ _, fun i hi => by omega, ?_, ?_⟩
      · have := World.alloc_heap_new ((w.alloc (.cells #[.int .u8 t.kind, .int .i64 t.num, .string t.name, .slice a t.len c] 24)).alloc (.cells #[.int .u8 0, .int .i64 0, .string ⟨#[]⟩, .slice none 0 0] 24)) (.cells #[.int .u8 t.kind, .int .i64 t.num, .string t.name, .slice none 0 0] 24)
        rw [World.size_alloc, World.size_alloc] at this
        exact this
      · exact (Below.refl _ _).alloc (by simp) _
    case round =>
      obtain ⟨j, x, v, hj, rfl, hcp⟩ := hrel
      have hsz := hcp.size
      have HCP := Lib.hid hcp
      have HB := Lib.hid hcp.old
      have b3 : wr.cell? ⟨w.heap.size, 3, none⟩ = some (.slice a t.len c) := (hcp.bel.cell (p := ⟨w.heap.size, 3, none⟩) (by show w.heap.size < _; omega)).trans (by simp [World.cell?_alloc_lt])
      have m3 := four_cell3 hcp.box
      clear hcp
      by_cases hlt : j < t.len
      · rcases HK.out with h0 | ⟨b, off, rfl, hc⟩
        · omega
        obtain ⟨ai, ci, hn, hr⟩ := hc j hlt
        obtain ⟨f0, f1, f2, f3⟩ := hn.below HB.out hn.lt
        have HR := Lib.hid (hr.below HB.out)
        clear hc hn hr
        have hbd : Below wr.heap.size wr wr.drew := (Below.refl _ _).drew
        have HBD := Lib.hid hbd
        clear hbd
        go_wp2_with fail
        go_region_law (first
          | (refine step_append_row rfl (.tmp 15) (.tmp 22) 22 rfl (w.heap.size + 3) 24 i0 _ 4 56 Tryd.underlying22 hi hz0 hz1 hz2 rfl (by decide) v j (rowsTo t.kid x j) (by simp [Act.eval]) (HOWN1.out.alloc _) ⟨w1.heap.size, 0, none⟩ 1 1 ((t.kid j).row (a', c')) (by simp [Act.eval]) rfl (row_new w1 (t.kid j) a' c') (row_one _ _) (by decide) (by unfold maxLen; omega) (by omega) (by simp <;> omega) ?_; intro g cap w2 hown2 hgrow hplace; have HST := Lib.hid (HCP.out.step HCOPY.out HB1.out hown2 hgrow hplace); have HBX2 := Lib.hid (HCP.out.boxAt HB1.out hgrow); have m32 := four_cell3 HBX2.out; have q32 := four_free HBX2.out 3; clear hown2 hgrow hplace)
          | (go_simp; go_at_call 33; ((with_reducible refine (IH.out j hlt _ ai ci (HR.out.below HBD.out) (HSZ.out j hlt)).mono ?_); rintro e w1 ⟨a', c', rfl, hcopy, hB1⟩; have HB1 := Lib.hid (HBD.out.trans (hB1.mono HBD.out.size)); have HCOPY := Lib.hid hcopy; have HOWN1 := Lib.hid (ownsRow_below HCP.out.own HB1.out); have m31 : w1.cell? ⟨w.heap.size + 1 + 1, 3, none⟩ = some v := (HB1.out.cell (p := ⟨w.heap.size + 1 + 1, 3, none⟩) (by show w.heap.size + 1 + 1 < _; omega)).trans m3; have hsz1 := HB1.out.size; have hmb : w.heap.size + 1 + 1 < w1.heap.size := (by omega); clear hcopy hB1)))
        all_goals
          go_wp2_with fail
          go_roundw
          case rel => exact ⟨j + 1, _, _, by omega, by go_num, HST.out⟩
          case measure => simp [intOf]; omega
      · obtain rfl : j = t.len := by omega
        have HBOX := Lib.hid HCP.out.box
        have m0 : wr.cell? ⟨w.heap.size + 1 + 1, 0, none⟩ = some (.int .u8 t.kind) := by simp [World.cell?, HBOX.out]
        have m1 : wr.cell? ⟨w.heap.size + 1 + 1, 1, none⟩ = some (.int .i64 t.num) := by simp [World.cell?, HBOX.out]
        have m2 : wr.cell? ⟨w.heap.size + 1 + 1, 2, none⟩ = some (.string t.name) := by simp [World.cell?, HBOX.out]
        have HBEL := Lib.hid HCP.out.bel
        have hlt1 : w.heap.size + 1 < wr.heap.size := by omega
        have z0 : wr.cell? ⟨w.heap.size + 1, 0, none⟩ = some (.int .u8 0) := (HBEL.out.cell (p := ⟨w.heap.size + 1, 0, none⟩) (by show w.heap.size + 1 < _; omega)).trans (by simp)
        have z1 : wr.cell? ⟨w.heap.size + 1, 1, none⟩ = some (.int .i64 0) := (HBEL.out.cell (p := ⟨w.heap.size + 1, 1, none⟩) (by show w.heap.size + 1 < _; omega)).trans (by simp)
        have z2 : wr.cell? ⟨w.heap.size + 1, 2, none⟩ = some (.string ⟨#[]⟩) := (HBEL.out.cell (p := ⟨w.heap.size + 1, 2, none⟩) (by show w.heap.size + 1 < _; omega)).trans (by simp)
        have z3 : wr.cell? ⟨w.heap.size + 1, 3, none⟩ = some (.slice none 0 0) := (HBEL.out.cell (p := ⟨w.heap.size + 1, 3, none⟩) (by show w.heap.size + 1 < _; omega)).trans (by simp)
        have fz : ∀ i, wr.frozen? ⟨w.heap.size + 1, i, none⟩ = false := by
          intro i
          rw [HBEL.out.frozen (p := ⟨w.heap.size + 1, i, none⟩) (by show w.heap.size + 1 < _; omega)]
          simp
        have q0 := fz 0
        have q1 := fz 1
        have q2 := fz 2
        have q3 := fz 3
        clear fz
        have keep : ∀ (W : World) (u1 u2 u3 u4 : Value) (k : Nat), w.heap.size + 2 ≤ k → ((((W.setCell ⟨w.heap.size + 1, 0, none⟩ u1).setCell ⟨w.heap.size + 1, 1, none⟩ u2).setCell ⟨w.heap.size + 1, 2, none⟩ u3).setCell ⟨w.heap.size + 1, 3, none⟩ u4).heap[k]? = W.heap[k]? := by
          intro W u1 u2 u3 u4 k hk
          rw [Below.heap_setCell _ _ _ _ (by show k ≠ w.heap.size + 1; omega), Below.heap_setCell _ _ _ _ (by show k ≠ w.heap.size + 1; omega), Below.heap_setCell _ _ _ _ (by show k ≠ w.heap.size + 1; omega), Below.heap_setCell _ _ _ _ (by show k ≠ w.heap.size + 1; omega)]
        have KEEP := Lib.hid keep
        clear keep
        rcases ownsRow_form HCP.out.own with ⟨rfl, h0⟩ | ⟨g, cap, rfl, hg, hgl, hcap⟩
        · have H0 := Lib.hid h0
          clear h0
          go_wp2_with fail
          refine bodyPost_ret (v := .agg #[.int .u8 t.kind, .int .i64 t.num, .string t.name, .slice none 0 0]) (by simp [results, Tryd.results33, go_sem, z0, z1, z2, z3]) rfl ?_
          exact ⟨none, 0, by show _ = Ending.returned (.agg #[.int .u8 t.kind, .int .i64 t.num, .string t.name, .slice none t.len 0]); rw [H0.out], RepIn.mk HFIT.out (.inl H0.out),
            (((HB.out.setCell (p := ⟨w.heap.size + 1, 0, none⟩) (Nat.le_succ _) _).setCell (p := ⟨w.heap.size + 1, 1, none⟩) (Nat.le_succ _) _).setCell (p := ⟨w.heap.size + 1, 2, none⟩) (Nat.le_succ _) _).setCell (p := ⟨w.heap.size + 1, 3, none⟩) (Nat.le_succ _) _⟩
        · go_wp2_with fail
          refine bodyPost_ret (v := .agg #[.int .u8 t.kind, .int .i64 t.num, .string t.name, .slice (some ⟨g, 0, none⟩) t.len cap]) (by simp [results, Tryd.results33, go_sem, z0, z1, z2, z3]) rfl ?_
          refine ⟨some ⟨g, 0, none⟩, cap, rfl, ?_, (((HB.out.setCell (p := ⟨w.heap.size + 1, 0, none⟩) (Nat.le_succ _) _).setCell (p := ⟨w.heap.size + 1, 1, none⟩) (Nat.le_succ _) _).setCell (p := ⟨w.heap.size + 1, 2, none⟩) (Nat.le_succ _) _).setCell (p := ⟨w.heap.size + 1, 3, none⟩) (Nat.le_succ _) _⟩
          refine RepIn.mk HFIT.out (.inr ⟨g, 0, rfl, ⟨by omega, (ownsRow_free HCP.out.own rfl).same (KEEP.out _ _ _ _ _ g (by omega))⟩, fun i hi => ⟨(x i).1, (x i).2, NodeAt.same (w := wr) ?_ (KEEP.out _ _ _ _ _ g (by omega)), (HCP.out.reps i hi).move (fun k hk _ => KEEP.out _ _ _ _ _ k (by have := hk.1; omega)) (fun k hk _ => ⟨by have := hk.1; omega, hk.2.2.same (KEEP.out _ _ _ _ _ k (by have := hk.1; omega))⟩)⟩⟩)
          have ca := fun d (hd : d < 4) => (HCP.out.own.cellAt (i * 4 + d) (by omega)).trans (rowsTo_at t.kid x hi d hd)
          have k0 := ca 0 (by omega)
          have k1 := ca 1 (by omega)
          have k2 := ca 2 (by omega)
          have k3 := ca 3 (by omega)
          rw [Nat.zero_add]
          exact ⟨k0, k1, k2, k3⟩
end Go.Proofs.YtfkegjdgbnkicaaDoor
