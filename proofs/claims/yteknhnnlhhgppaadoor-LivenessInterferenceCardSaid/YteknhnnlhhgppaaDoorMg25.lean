/-
  Mg25: several texts in one (DeadC, DeadS, DeadL).
-/
import Derived.Test.YteknhnnlhhgppaaDoorMg23
import Derived.Deep.RegionHeld
import Derived.Shelf.SlSortCmp.NoneTotal
import Derived.Test.YteknhnnlhhgppaaDoorMg4
/-
  Contracts: cmp.Compare at int, slices.Compare at two pairs, and how Dead puts two pairs (package liveness).
-/
namespace Go.Proofs.YteknhnnlhhgppaaDoor
set_option linter.unusedVariables false
set_option linter.unusedSimpArgs false
open Go.RowKit
set_option maxRecDepth 100000
set_option maxHeartbeats 8000000

theorem nan_any (x : Int) (w : World) : Calls Tryd.prog 103 #[.int .i64 x] w fun e w' => e = .returned (.bool false) ∧ w' = w := by
  have h : (x != x) = false := by simp
  go_enter Tryd.func103, Tryd.ntmps103
  go_wp2_with fail
  go_ret
  exact ⟨rfl, rfl⟩
theorem compare_any (x y : Int) (w : World) : Calls Tryd.prog 84 #[.int .i64 x, .int .i64 y] w fun e w' => e = .returned (.int .i64 (Lib.compareInt x y)) ∧ w' = w := by
  have HN := Lib.hid (fun z => nan_any z w)
  by_cases h1 : x < y
  · have HR : Hid (Lib.compareInt x y = -1) := by show _ = _; unfold Lib.compareInt; rw [if_pos h1]
    rw [HR.out]
    go_enter Tryd.func84, Tryd.ntmps84
    go_wp2_with (go_at_call 103; refine (HN.out _).mono ?_; rintro e w' ⟨rfl, hw⟩; have hw := hw.symm; subst hw)
    go_ret
    exact ⟨rfl, rfl⟩
  · by_cases h2 : y < x
    · have HR : Hid (Lib.compareInt x y = 1) := by show _ = _; unfold Lib.compareInt; rw [if_neg h1, if_pos h2]
      rw [HR.out]
      go_enter Tryd.func84, Tryd.ntmps84
      go_wp2_with (go_at_call 103; refine (HN.out _).mono ?_; rintro e w' ⟨rfl, hw⟩; have hw := hw.symm; subst hw)
      go_ret
      exact ⟨rfl, rfl⟩
    · have HR : Hid (Lib.compareInt x y = 0) := by show _ = _; unfold Lib.compareInt; rw [if_neg h1, if_neg h2]
      rw [HR.out]
      go_enter Tryd.func84, Tryd.ntmps84
      go_wp2_with (go_at_call 103; refine (HN.out _).mono ?_; rintro e w' ⟨rfl, hw⟩; have hw := hw.symm; subst hw)
      go_ret
      exact ⟨rfl, rfl⟩
theorem cmp2_any (b1 b2 : Nat) (x y : Int × Int) (w : World) (h1 : w.cell? ⟨b1, 0, none⟩ = some (.int .i64 x.1)) (h2 : w.cell? ⟨b1, 1, none⟩ = some (.int .i64 x.2)) (h3 : w.cell? ⟨b2, 0, none⟩ = some (.int .i64 y.1)) (h4 : w.cell? ⟨b2, 1, none⟩ = some (.int .i64 y.2)) :
    Calls Tryd.prog 71 #[.slice (some ⟨b1, 0, none⟩) 2 2, .slice (some ⟨b2, 0, none⟩) 2 2] w fun e w' => e = .returned (.int .i64 (cfP x y)) ∧ w' = w := by
  obtain ⟨x1, x2⟩ := x
  obtain ⟨y1, y2⟩ := y
  simp only at h1 h2 h3 h4
  obtain ⟨c, hc⟩ : ∃ c, cfP (x1, x2) (y1, y2) = c := ⟨_, rfl⟩
  rw [hc]
  unfold cfP at hc
  simp only at hc
  have HC := Lib.hid hc
  have H1 := Lib.hid h1
  have H2 := Lib.hid h2
  have H3 := Lib.hid h3
  have H4 := Lib.hid h4
  clear h1 h2 h3 h4 hc
  go_enter Tryd.func71, Tryd.ntmps71
  go_wp2_with fail
  go_loopw [11] (fun i wr => ∃ j : Nat, j ≤ 2 ∧ i = .int .i64 (j : Int) ∧ (1 ≤ j → x1 = y1) ∧ (2 ≤ j → x2 = y2) ∧ wr = w) (fun i _ => 2 - (intOf i).toNat)
  case atStart => exact ⟨0, by omega, rfl, by omega, by omega, rfl⟩
  case round =>
    obtain ⟨j, hj, rfl, hx, hy, rfl⟩ := hrel
    have HX := Lib.hid hx
    have HY := Lib.hid hy
    clear hx hy
    have hcase : j = 0 ∨ j = 1 ∨ j = 2 := by omega
    rcases hcase with rfl | rfl | rfl
    · have q1 := H1.out
      have q3 := H3.out
      by_cases e : x1 = y1
      · have QK : Hid (∀ w, Calls Tryd.prog 84 #[.int .i64 x1, .int .i64 y1] w fun e w' => e = .returned (.int .i64 0) ∧ w' = w) := fun w => by
          have h9 := compare_any x1 y1 w
          rw [show Lib.compareInt x1 y1 = 0 by rw [e]; unfold Lib.compareInt; simp] at h9
          exact h9
        have HE := Lib.hid e
        clear e
        go_wp2_with (go_at_call 84; refine (QK.out _).mono ?_; rintro e w' ⟨rfl, hw⟩; have hw := hw.symm; subst hw)
        exact ⟨⟨1, by omega, by go_num, fun _ => HE.out, by omega, trivial⟩, by simp [intOf]⟩
      · obtain ⟨c0, hc0⟩ : ∃ c0, Lib.compareInt x1 y1 = c0 := ⟨_, rfl⟩
        have hcn : c0 ≠ 0 := by
          rw [← hc0]
          unfold Lib.compareInt
          split
          · omega
          · split
            · omega
            · omega
        have QK : Hid (∀ w, Calls Tryd.prog 84 #[.int .i64 x1, .int .i64 y1] w fun e w' => e = .returned (.int .i64 c0) ∧ w' = w) := fun w => by
          have h9 := compare_any x1 y1 w
          rw [hc0] at h9
          exact h9
        have HCC : Hid (c0 = c) := by
          show _ = _
          rw [← HC.out, ← hc0]
          rw [if_neg e]
        have b1' : (c0 != 0) = true := by simpa using hcn
        have b2' : decide (c0 ≠ 0) = true := by simpa using hcn
        have h9 := HCC.out
        subst h9
        clear e hc0 hcn HCC
        go_wp2_with (go_at_call 84; refine (QK.out _).mono ?_; rintro e w' ⟨rfl, hw⟩; have hw := hw.symm; subst hw)
        go_ret
        exact ⟨rfl, rfl⟩
    · have q1 := H2.out
      have q3 := H4.out
      by_cases e : x2 = y2
      · have QK : Hid (∀ w, Calls Tryd.prog 84 #[.int .i64 x2, .int .i64 y2] w fun e w' => e = .returned (.int .i64 0) ∧ w' = w) := fun w => by
          have h9 := compare_any x2 y2 w
          rw [show Lib.compareInt x2 y2 = 0 by rw [e]; unfold Lib.compareInt; simp] at h9
          exact h9
        have HE := Lib.hid e
        clear e
        go_wp2_with (go_at_call 84; refine (QK.out _).mono ?_; rintro e w' ⟨rfl, hw⟩; have hw := hw.symm; subst hw)
        exact ⟨⟨2, by omega, by go_num, fun _ => HX.out (by omega), fun _ => HE.out, trivial⟩, by simp [intOf]⟩
      · obtain ⟨c0, hc0⟩ : ∃ c0, Lib.compareInt x2 y2 = c0 := ⟨_, rfl⟩
        have hcn : c0 ≠ 0 := by
          rw [← hc0]
          unfold Lib.compareInt
          split
          · omega
          · split
            · omega
            · omega
        have QK : Hid (∀ w, Calls Tryd.prog 84 #[.int .i64 x2, .int .i64 y2] w fun e w' => e = .returned (.int .i64 c0) ∧ w' = w) := fun w => by
          have h9 := compare_any x2 y2 w
          rw [hc0] at h9
          exact h9
        have HCC : Hid (c0 = c) := by
          show _ = _
          rw [← HC.out, ← hc0]
          rw [if_pos (HX.out (by omega))]
        have b1' : (c0 != 0) = true := by simpa using hcn
        have b2' : decide (c0 ≠ 0) = true := by simpa using hcn
        have h9 := HCC.out
        subst h9
        clear e hc0 hcn HCC
        go_wp2_with (go_at_call 84; refine (QK.out _).mono ?_; rintro e w' ⟨rfl, hw⟩; have hw := hw.symm; subst hw)
        go_ret
        exact ⟨rfl, rfl⟩
    · have HCC : Hid (c = 0) := by
        show _ = _
        rw [← HC.out, if_pos (HX.out (by omega)), HY.out (by omega)]
        unfold Lib.compareInt
        simp
      have h9 := HCC.out
      subst h9
      clear HCC
      go_wp2_with fail
      go_ret
      exact ⟨rfl, rfl⟩
theorem Tryd.isAggPair : ∀ w, (isAgg 80).run Tryd.prog w = .ok true w := fun w => by kernel_rfl
theorem Tryd.sizePair : ∀ w, (Go.sizeOf 80).run Tryd.prog w = .ok 2 w := fun w => by kernel_rfl
/-- how Dead puts two pairs: two blocks are laid, an order is drawn -/
theorem putTwo_any (x y : Int × Int) (W : World) : Calls Tryd.prog 70 #[.agg (encP x).toArray, .agg (encP y).toArray] W fun e w' => e = .returned (.int .i64 (cfP x y)) ∧ ∃ q os', w' = Go.Sort.grow (W.drewN q) os' := by
  obtain ⟨V, hV⟩ : ∃ V : World, (W.alloc (.cells #[.int .i64 x.1, .int .i64 x.2] 80)).alloc (.cells #[.int .i64 y.1, .int .i64 y.2] 80) = V := ⟨_, rfl⟩
  have HV : Hid (V = Go.Sort.grow W #[.cells #[.int .i64 x.1, .int .i64 x.2] 80, .cells #[.int .i64 y.1, .int .i64 y.2] 80]) := by
    show _ = _
    rw [← hV, Go.Sort.alloc_eq_grow, Go.Sort.alloc_eq_grow, Go.Sort.grow_grow]
    rfl
  unfold encP
  go_enter Tryd.func70, Tryd.ntmps70
  have H0 : Hid (V.heap[W.heap.size]? = some (.cells #[.int .i64 x.1, .int .i64 x.2] 80)) := by show _ = _; rw [← hV]; exact mem_old1 W _ _
  have H1 : Hid (V.heap[W.heap.size + 1]? = some (.cells #[.int .i64 y.1, .int .i64 y.2] 80)) := by show _ = _; rw [← hV]; exact mem_new1 W _ _
  go_wp2_with fail
  clear hV
  refine wp_region_held_drew (S := fun w' => w' = World.drew V) (by kernel_rfl) rfl (fun hHeld => ?_)
  obtain ⟨D, hD⟩ : ∃ D : World, World.drew V = D := ⟨_, rfl⟩
  rw [hD] at hHeld ⊢
  have HDC : Hid (D.cell? ⟨W.heap.size, 0, none⟩ = some (.int .i64 x.1) ∧ D.cell? ⟨W.heap.size, 1, none⟩ = some (.int .i64 x.2) ∧ D.cell? ⟨W.heap.size + 1, 0, none⟩ = some (.int .i64 y.1) ∧ D.cell? ⟨W.heap.size + 1, 1, none⟩ = some (.int .i64 y.2)) := by
    subst hD
    exact ⟨mem_cell (w := World.drew V) H0.out 0, mem_cell (w := World.drew V) H0.out 1, mem_cell (w := World.drew V) H1.out 0, mem_cell (w := World.drew V) H1.out 1⟩
  have HD := Lib.hid hD
  clear hD
  obtain ⟨z0, z1, z2, z3⟩ := HDC.out
  refine wpAnyH_take (i := 0) (v := .slice (some ⟨W.heap.size, 0, none⟩) 2 2) rfl (by kernel_rfl) (by kernel_rfl) (by kernel_rfl) (fun _ _ _ h => h) (Or.inl ⟨by rfl, ?_⟩) (by assumption) ?_
  · intro w' hSw; subst hSw; go_simp
  (try simp only [Act.put, List.getElem_toArray, List.getElem_cons_zero, List.setIfInBounds_toArray, List.set_cons_zero, List.set_cons_succ])
  refine wpAnyH_take (i := 1) (v := .slice (some ⟨W.heap.size + 1, 0, none⟩) 2 2) rfl (by kernel_rfl) (by kernel_rfl) (by kernel_rfl) (fun _ _ _ h => h) (Or.inl ⟨by rfl, ?_⟩) (by assumption) ?_
  · intro w' hSw; subst hSw; go_simp
  (try simp only [Act.put, List.getElem_toArray, List.getElem_cons_zero, List.getElem_cons_succ, List.setIfInBounds_toArray, List.set_cons_zero, List.set_cons_succ])
  refine wpAnyH_ready (rs := [2]) (by kernel_rfl) (by simp) (AllReadyH.cons rfl (fun K hK => ?_) AllReadyH.nil)
  go_simp
  refine (cmp2_any W.heap.size (W.heap.size + 1) x y D z0 z1 z2 z3).mono ?_
  rintro e w9 ⟨rfl, hw9⟩
  have hw9 := hw9.symm
  subst hw9
  refine hK.out _ _ (rfl) (fun hHeld => ?_)
  clear hK K
  rename_i hOld
  clear hOld
  (try simp only [Act.put, List.getElem_toArray, List.getElem_cons_zero, List.getElem_cons_succ, List.setIfInBounds_toArray, List.set_cons_zero, List.set_cons_succ])
  refine wpAnyH_ready (rs := [3]) (by kernel_rfl) (by simp) (AllReadyH.cons rfl (fun K hK => ?_) AllReadyH.nil)
  go_simp
  refine hK.out _ _ (rfl) (fun hHeld => ?_)
  clear hK K
  rename_i hOld
  clear hOld
  (try simp only [Act.put, List.getElem_toArray, List.getElem_cons_zero, List.getElem_cons_succ, List.setIfInBounds_toArray, List.set_cons_zero, List.set_cons_succ])
  clear z0 z1 z2 z3
  refine wpAnyH_done (by kernel_rfl) ?_ _
  go_wp2_with fail
  go_ret
  exact ⟨rfl, 1, _, by rw [← HD.out, HV.out]; rfl⟩
end Go.Proofs.YteknhnnlhhgppaaDoor

/-
  A row of pairs that a call owns, in the words of the library's sort, and back.
-/
namespace Go.Proofs.YteknhnnlhhgppaaDoor
set_option linter.unusedVariables false
set_option linter.unusedSimpArgs false
open Go.RowKit Go.Sort
set_option maxRecDepth 100000

theorem pair_cells : ∀ (D : List (Int × Int)) (t : Nat), t < D.length * 2 → (D.flatMap encP)[t]? = some ((encP D[t / 2]!)[t % 2]!)
  | [], t, h => by simp at h
  | x :: r, 0, _ => rfl
  | x :: r, 1, _ => rfl
  | x :: r, t + 2, h => by
    have h' : t < r.length * 2 := by simp at h; omega
    have e1 : (t + 2) / 2 = t / 2 + 1 := by omega
    have e2 : (t + 2) % 2 = t % 2 := by omega
    rw [List.flatMap_cons, e1, e2]
    show (r.flatMap encP)[t]? = _
    rw [pair_cells r t h']
    rfl
theorem pair_flat (D : List (Int × Int)) : (flatK encP 2 D.toArray).toList = D.flatMap encP := by
  have hl : (D.flatMap encP).length = D.length * 2 := by
    induction D with
    | nil => rfl
    | cons x r ih => rw [List.flatMap_cons, List.length_append, ih, List.length_cons]; show 2 + _ = _; omega
  apply List.ext_getElem?
  intro t
  rw [Array.getElem?_toList]
  by_cases h : t < D.length * 2
  · rw [pair_cells D t h]
    have h1 := get_flatK encP 2 D.toArray t (by simpa using h)
    rw [getElem!_pos _ t (by simpa using h)] at h1
    rw [Array.getElem?_eq_getElem (by simpa using h), h1]
    simp
  · rw [Array.getElem?_eq_none (by simp; omega), List.getElem?_eq_none (by omega)]
theorem holds2_of_own {w : World} {base : Nat} {e : TypeId} {v : Value} {n : Nat} {D : List (Int × Int)} (h : w.ownsRow base e 2 v n (D.flatMap encP)) (hD : D.length = n) (hn : 0 < n) :
    ∃ g cap, v = .slice (some ⟨g, 0, none⟩) n cap ∧ g < w.heap.size ∧ HoldsK encP 2 w g 0 D.toArray := by
  rcases h.2 with ⟨_, e0⟩ | ⟨g, cap, cur, rfl, hb, hg, hn', hm, hs, ht⟩
  · omega
  · have hlt : g < w.heap.size := by
      rcases Nat.lt_or_ge g w.heap.size with h' | h'
      · exact h'
      · rw [Array.getElem?_eq_none h'] at hg; cases hg
    refine ⟨g, cap, rfl, hlt, fun j hj => ⟨?_, by simp [World.frozen?, hg]⟩⟩
    have hj' : j < n * 2 := by simpa [hD] using hj
    have e1 : (cur.toList.take (n * 2))[j]? = some (flatK encP 2 D.toArray)[j]! := by
      rw [ht, ← pair_flat, Array.getElem?_toList, getElem!_pos _ j hj, Array.getElem?_eq_getElem hj]
    rw [List.getElem?_take, if_pos hj', Array.getElem?_toList] at e1
    simp only [World.cell?, hg, Nat.zero_add]
    simp only [Option.isSome_none, Bool.false_eq_true, if_false]
    rw [e1]
    rfl
theorem own2_sort {w : World} {base : Nat} {e : TypeId} {g n cap q : Nat} {xs : List Value} {D : List (Int × Int)} {os : Array Obj} (h : w.ownsRow base e 2 (.slice (some ⟨g, 0, none⟩) n cap) n xs) (hD : D.length = n) :
    (sortWorldK encP 2 w g 0 q D.toArray os).ownsRow base e 2 (.slice (some ⟨g, 0, none⟩) n cap) n (D.flatMap encP) ∧ w.grownBy (sortWorldK encP 2 w g 0 q D.toArray os) (some g) := by
  rcases h.2 with ⟨e0, _⟩ | ⟨g', cap', cur, e0, hb, hg, hn, hm, hs, ht⟩
  · cases e0
  · injection e0 with e1 _ e3
    injection e1 with e1
    injection e1 with e1
    subst e1; subst e3
    have hlt : g < w.heap.size := by
      rcases Nat.lt_or_ge g w.heap.size with h' | h'
      · exact h'
      · rw [Array.getElem?_eq_none h'] at hg; cases hg
    have hl : (D.flatMap encP).length = n * 2 := by rw [← pair_flat, Array.length_toList, size_flatK]; simp [hD]
    refine ⟨⟨hl, .inr ⟨g, cap, putCells id 0 (flatK encP 2 D.toArray) cur, rfl, hb, ?_, hn, hm, by simpa [putCells] using hs, ?_⟩⟩, ⟨rfl, rfl, rfl, ?_, fun k hk hne => ?_⟩⟩
    · unfold sortWorldK
      rw [heap_grow_old _ _ (by simpa [putRowK] using hlt)]
      simp [putRowK, putRow, mapBlock, Sort.ahead, Array.getElem?_modify, hg, onCells]
    · rw [← pair_flat]
      apply List.ext_getElem?
      intro j
      rw [List.getElem?_take, Array.getElem?_toList, Array.getElem?_toList]
      by_cases hj : j < n * 2
      · have hjc : j < cur.size := by have := Nat.mul_le_mul_right 2 hn; omega
        have hjf : j < (flatK encP 2 D.toArray).size := by simpa [hD] using hj
        simp only [if_pos hj, putCells, Array.getElem?_mapIdx, Array.getElem?_eq_getElem hjc, Option.map_some]
        rw [if_pos ⟨Nat.zero_le _, by omega⟩, Array.getElem?_eq_getElem hjf]
        simp only [Nat.sub_zero, id_eq]
        rw [getElem!_pos _ j hjf]
      · rw [if_neg hj, Array.getElem?_eq_none (by simp [hD]; omega)]
    · simp [sortWorldK, putRowK]
    · unfold sortWorldK
      rw [heap_grow_old _ _ (by simpa [putRowK] using hk)]
      have : g ≠ k := fun e => hne (by rw [e])
      simp [putRowK, putRow, mapBlock, Sort.ahead, Array.getElem?_modify, this]
end Go.Proofs.YteknhnnlhhgppaaDoor

/-
  Contract: slices.SortFunc at pairs, under Dead's order: the row is sorted.
-/
namespace Go.Proofs.YteknhnnlhhgppaaDoor
set_option linter.unusedVariables false
set_option linter.unusedSimpArgs false
open Go.RowKit
set_option maxRecDepth 100000
set_option maxHeartbeats 8000000

def Tryd.sortPairs_ren : Go.Shelf.Ren := ⟨fun | 6 => 69 | 15 => 83 | 14 => 82 | 28 => 101 | 29 => 102 | 20 => 93 | 21 => 94 | 22 => 95 | 23 => 96 | 24 => 97 | 25 => 98 | 26 => 99 | 27 => 100 | 46 => 109 | 47 => 110 | 48 => 111 | 49 => 112 | 50 => 113 | 57 => 119 | n => n, fun | 22 => 76 | 24 => 80 | 25 => 123 | 3 => 3 | 39 => 136 | 0 => 0 | 53 => 160 | 55 => 127 | 4 => 4 | 46 => 154 | 45 => 153 | 50 => 51 | 5 => 5 | 9 => 9 | 66 => 169 | 70 => 69 | 76 => 178 | 77 => 179 | n => n, fun | n => n⟩
theorem Tryd.sortPairs : Go.Proofs.SlLaysF0.n6 Tryd.prog Tryd.sortPairs_ren where
  mixed := by kernel_rfl
  f6 := ⟨Tryd.f69.name, by decide, Tryd.func69.trans (congrArg some (by kernel_rfl))⟩
  f14 := ⟨Tryd.f82.name, by decide, Tryd.func82.trans (congrArg some (by kernel_rfl))⟩
  f15 := Tryd.func83.trans (congrArg some (by kernel_rfl))
  f20 := ⟨Tryd.f93.name, by decide, Tryd.func93.trans (congrArg some (by kernel_rfl))⟩
  f21 := ⟨Tryd.f94.name, by decide, Tryd.func94.trans (congrArg some (by kernel_rfl))⟩
  f22 := ⟨Tryd.f95.name, by decide, Tryd.func95.trans (congrArg some (by kernel_rfl))⟩
  f23 := ⟨Tryd.f96.name, by decide, Tryd.func96.trans (congrArg some (by kernel_rfl))⟩
  f24 := ⟨Tryd.f97.name, by decide, Tryd.func97.trans (congrArg some (by kernel_rfl))⟩
  f25 := ⟨Tryd.f98.name, by decide, Tryd.func98.trans (congrArg some (by kernel_rfl))⟩
  f26 := ⟨Tryd.f99.name, by decide, Tryd.func99.trans (congrArg some (by kernel_rfl))⟩
  f27 := ⟨Tryd.f100.name, by decide, Tryd.func100.trans (congrArg some (by kernel_rfl))⟩
  f28 := Tryd.func101.trans (congrArg some (by kernel_rfl))
  f29 := Tryd.func102.trans (congrArg some (by kernel_rfl))
  f46 := ⟨Tryd.f109.name, by decide, Tryd.func109.trans (congrArg some (by kernel_rfl))⟩
  f47 := Tryd.func110.trans (congrArg some (by kernel_rfl))
  f48 := Tryd.func111.trans (congrArg some (by kernel_rfl))
  f49 := ⟨Tryd.f112.name, by decide, Tryd.func112.trans (congrArg some (by kernel_rfl))⟩
  f50 := ⟨Tryd.f113.name, by decide, Tryd.func113.trans (congrArg some (by kernel_rfl))⟩
  f57 := ⟨Tryd.f119.name, by decide, Tryd.func119.trans (congrArg some (by kernel_rfl))⟩
  t0 := Tryd.underlying0
  a0 := Tryd.isAgg0
  z0 := Tryd.sizeOf0
  v0 := Tryd.zeroValue0
  t3 := Tryd.underlying3
  a3 := Tryd.isAgg3
  z3 := Tryd.sizeOf3
  v3 := Tryd.zeroValue3
  t4 := Tryd.underlying4
  a4 := Tryd.isAgg4
  z4 := Tryd.sizeOf4
  v4 := Tryd.zeroValue4
  t5 := Tryd.underlying5
  a5 := Tryd.isAgg5
  z5 := Tryd.sizeOf5
  v5 := Tryd.zeroValue5
  t9 := Tryd.underlying9
  a9 := Tryd.isAgg9
  z9 := Tryd.sizeOf9
  v9 := Tryd.zeroValue9
  t22 := Tryd.underlying76
  a22 := Tryd.isAgg76
  z22 := Tryd.sizeOf76
  v22 := Tryd.zeroValue76
  t25 := Tryd.underlying123
  a25 := Tryd.isAgg123
  z25 := Tryd.sizeOf123
  v25 := Tryd.zeroValue123
  t39 := Tryd.underlying136
  a39 := Tryd.isAgg136
  z39 := Tryd.sizeOf136
  v39 := Tryd.zeroValue136
  t45 := Tryd.underlying153
  a45 := Tryd.isAgg153
  z45 := Tryd.sizeOf153
  v45 := Tryd.zeroValue153
  t46 := Tryd.underlying154
  a46 := Tryd.isAgg154
  z46 := Tryd.sizeOf154
  v46 := Tryd.zeroValue154
  t50 := Tryd.underlying51
  a50 := Tryd.isAgg51
  z50 := Tryd.sizeOf51
  v50 := Tryd.zeroValue51
  t53 := Tryd.underlying160
  a53 := Tryd.isAgg160
  z53 := Tryd.sizeOf160
  v53 := Tryd.zeroValue160
  t55 := Tryd.underlying127
  a55 := Tryd.isAgg127
  z55 := Tryd.sizeOf127
  v55 := Tryd.zeroValue127
  t66 := Tryd.underlying169
  a66 := Tryd.isAgg169
  z66 := Tryd.sizeOf169
  v66 := Tryd.zeroValue169
  t70 := Tryd.underlying69
  a70 := Tryd.isAgg69
  z70 := Tryd.sizeOf69
  v70 := Tryd.zeroValue69
  t76 := Tryd.underlying178
  a76 := Tryd.isAgg178
  z76 := Tryd.sizeOf178
  v76 := Tryd.zeroValue178
  t77 := Tryd.underlying179
  a77 := Tryd.isAgg179
  z77 := Tryd.sizeOf179
  v77 := Tryd.zeroValue179
theorem sortp_any (D : List (Int × Int)) (n B : Nat) (v : Value) (w : World) (hD : D.length = n) (hn : n ≤ 1000000) (h : w.ownsRow B 80 2 v n (D.flatMap encP)) :
    Calls Tryd.prog 69 #[v, .func (.func 70) #[] #[]] w fun e w' => e = .returned (.tuple #[]) ∧ w'.ownsRow B 80 2 v n ((D.mergeSort fun x y => !(ltOf cfP) y x).flatMap encP) ∧ w.grownBy w' v.ownBlock := by
  rcases Nat.eq_zero_or_pos n with rfl | hp
  · obtain rfl := List.eq_nil_of_length_eq_zero hD
    obtain ⟨a, c, rfl⟩ := ownsRow_val h
    have h9 := AnyF.slices_SortFunc_none Tryd.sortPairs a c (.func (.func 70) #[] #[]) w
    change Calls Tryd.prog 69 _ _ _ at h9
    refine h9.mono ?_
    rintro e w' ⟨rfl, rfl⟩
    exact ⟨rfl, by simpa using h, World.grownBy.refl _ _⟩
  · obtain ⟨g, cap, rfl, hg, hH⟩ := holds2_of_own h hD hp
    have eg : ∀ args w, (callFunc 70 args).run Tryd.prog w = .ok (.enter 70 args) w := enters_of Tryd.func70 (by kernel_rfl) rfl
    have h9 := AnyQ.slices_SortFunc_total Tryd.sortPairs 2 Tryd.isAggPair Tryd.sizePair encP (fun _ => rfl) (fun x v hv => by simp [encP] at hv; rcases hv with rfl | rfl <;> rfl) cfP cf_swo 70 #[] g 0 cap D.toArray w eg (fun _ _ _ _ x y => putTwo_any x y _) hH hg (by simp; omega) (fun x y => cf_one x y)
    change Calls Tryd.prog 69 _ _ _ at h9
    rw [show D.toArray.size = n by simpa using hD] at h9
    refine h9.mono ?_
    rintro e w' ⟨rfl, q, os, rfl⟩
    obtain ⟨h1, h2⟩ := own2_sort (q := q) (os := os) (D := D.mergeSort fun x y => !(ltOf cfP) y x) h (by rw [List.length_mergeSort]; exact hD)
    exact ⟨rfl, h1, h2⟩
end Go.Proofs.YteknhnnlhhgppaaDoor
