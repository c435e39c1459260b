/-
  The law CheckNested: the whole body in a Lock statement: exactly the Lock statements within are faults.
-/
import Derived.Test.YtnegdmhmhdojbaaDoorChkNestP
import Derived.Test.YtnegdmhmhdojbaaDoorChkUnlock
import Derived.Test.YtnegdmhmhdojbaaDoorApps
import Derived.Test.YtnegdmhmhdojbaaDoorSmalls
import Derived.Test.YtnegdmhmhdojbaaDoorChkAwake
namespace Go.Proofs.YtnegdmhmhdojbaaDoor
set_option linter.unusedVariables false
set_option linter.unusedSimpArgs false
open Go.RowKit
set_option maxRecDepth 100000
set_option maxHeartbeats 80000000

theorem isLock_any (x : Tree) (w : World) (a : Option Addr) (c : Nat) (hx : Rep w x a) :
    Calls Tryd.prog 37 (#[x.val a c] ++ #[]) w fun e w' => e = .returned (.bool (isLockF x)) ∧ Below w.heap.size w w' := by
  rw [show (#[x.val a c] ++ #[] : Array Value) = #[x.val a c] from rfl]
  have hfit := hx.fits
  clear hx
  go_enter Tryd.func37, Tryd.ntmps37
  by_cases h1 : x.kind = 46
  · have hb1 : (x.kind == 46) = true := by simp [h1]
    have HE : Hid (isLockF x = true) := by show _ = _; unfold isLockF; simp [h1]
    clear h1
    go_wp2_with fail
    go_ret
    exact ⟨by rw [HE.out]; rfl, mem_alloc _ _⟩
  · have hb1 : (x.kind == 46) = false := by simpa using h1
    have HE : Hid (isLockF x = false) := by show _ = _; unfold isLockF; simp [h1]
    clear h1
    go_wp2_with fail
    go_ret
    exact ⟨by rw [HE.out]; rfl, mem_alloc _ _⟩
theorem PathsAt.drop1 {w : World} {b o : Nat} {ps : List (List Int)} (h : PathsAt w (some ⟨b, o, none⟩) ps) : PathsAt w (some ⟨b, o + 1, none⟩) (ps.drop 1) := by
  refine ⟨by have := h.1; rw [List.length_drop]; omega, fun i hi => ?_⟩
  rw [List.length_drop] at hi
  obtain ⟨b', o', pa, pc, he, hc, hr⟩ := h.2 (1 + i) (by omega)
  cases he
  have e : (ps.drop 1).getD i [] = ps.getD (1 + i) [] := by
    simp only [List.getD_eq_getElem?_getD]
    rw [List.getElem?_drop]
  rw [e]
  exact ⟨b, o + 1, pa, pc, rfl, by rw [show o + 1 + i = o + (1 + i) by omega]; exact hc, hr⟩
theorem checkNested_any (p : Prg) (k ob : Int) (w : World) (sa ta : Option Addr) (sc tc : Nat) (hp : PrgAt w p sa ta) (hg : SignsIn w) (hk : 0 ≤ k ∧ k ≤ 255) (hob : 0 ≤ ob ∧ ob ≤ 255) :
    Calls Tryd.prog 9 #[p.val sa sc ta tc, .int .u8 k, .int .u8 ob] w fun e w' => e = .returned (.bool true) ∧ Below w.heap.size w w' := by
  have hsl := hp.1.1
  have htl := hp.2.1
  obtain ⟨W, hW⟩ : ∃ W : World, w.alloc (prgObj p sa sc ta tc) = W := ⟨_, rfl⟩
  have HBW : Hid (Below w.heap.size w W) := by show Below _ _ _; rw [← hW]; exact mem_alloc _ _
  have HBX : Hid (W.heap[w.heap.size]? = some (prgObj p sa sc ta tc)) := by show _ = _; rw [← hW]; exact mem_new _ _
  have HP := Lib.hid (hp.below HBW.out)
  have HG := Lib.hid (hg.below HBW.out)
  -- what every later world keeps
  have HK : Hid (∀ w', Below W.heap.size W w' → Below w.heap.size w w' ∧ w'.cell? ⟨w.heap.size, 0, none⟩ = some (.slice sa p.shared.length sc) ∧ w'.cell? ⟨w.heap.size, 1, none⟩ = some (.slice ta p.tasks.length tc) ∧ PrgAt w' p sa ta ∧ SignsIn w') := fun w' h => by
    have hb := mem_keep HBX.out h
    exact ⟨HBW.out.trans (h.mono HBW.out.size), mem_cell hb 0, mem_cell hb 1, HP.out.below h, HG.out.below h⟩
  clear hp hg
  go_enter Tryd.func9, Tryd.ntmps9
  go_wp2_with fail
  clear hW
  refine (awake15_any W HG.out).mono ?_
  rintro e w1 ⟨rfl, hB1⟩
  have HB1 := Lib.hid hB1
  obtain ⟨_, y0, y1, hp1, hg1⟩ := HK.out w1 hB1
  have HP1 := Lib.hid hp1
  have HG1 := Lib.hid hg1
  clear hp1 hg1 hB1
  go_wp2_with fail
  clear y0 y1
  refine (clean_any p w1 sa ta sc tc HP1.out HG1.out).mono ?_
  rintro e w2 ⟨rfl, hB2⟩
  have HB2 : Hid (Below W.heap.size W w2) := mem_then HB1.out hB2
  obtain ⟨_, y0, y1, hp2, hg2⟩ := HK.out w2 HB2.out
  have HP2 := Lib.hid hp2
  have HG2 := Lib.hid hg2
  have HAW : Hid (∀ w', Below W.heap.size W w' → Calls Tryd.prog 12 #[] w' fun e w'' => e = .returned (.bool true) ∧ Below w.heap.size w w'') := fun w' h => by
    refine (awake15_any w' (HG.out.below h)).mono ?_
    rintro e w9 ⟨he, hB9⟩
    exact ⟨he, (HK.out w9 (mem_then h hB9)).1⟩
  clear hB2 hp2 hg2
  cases hs : cleanP p with
  | false =>
    go_wp2_with fail
    refine (HAW.out w2 HB2.out).mono ?_
    rintro e w3 ⟨rfl, hB3⟩
    have HB3 := Lib.hid hB3
    clear hB3
    go_wp2_with fail
    go_ret
    exact ⟨rfl, HB3.out⟩
  | true =>
  have HOK : Hid (okP p = true) := by
    unfold cleanP at hs
    exact (Bool.and_eq_true _ _ ▸ hs).2
  clear hs
  by_cases h0 : p.tasks.length = 0
  · have hz : ((p.tasks.length : Int) == 0) = true := by simp [h0]
    clear h0
    go_wp2_with fail
    refine (HAW.out w2 HB2.out).mono ?_
    rintro e w3 ⟨rfl, hB3⟩
    have HB3 := Lib.hid hB3
    clear hB3
    go_wp2_with fail
    go_ret
    exact ⟨rfl, HB3.out⟩
  have hz : ((p.tasks.length : Int) == 0) = false := by rw [beq_eq_false_iff_ne]; omega
  have hlen0 : (p.tasks.length : Int) ≠ 0 := by omega
  by_cases hs0 : p.shared.length = 0
  · have hzs : ((p.shared.length : Int) == 0) = true := by simp [hs0]
    clear hs0
    go_wp2_with fail
    refine (HAW.out w2 HB2.out).mono ?_
    rintro e w3 ⟨rfl, hB3⟩
    have HB3 := Lib.hid hB3
    clear hB3
    go_wp2_with fail
    go_ret
    exact ⟨rfl, HB3.out⟩
  have hzs : ((p.shared.length : Int) == 0) = false := by rw [beq_eq_false_iff_ne]; omega
  have hs1 : (0 : Int) < (p.shared.length : Int) := by omega
  have hs2 : (p.shared.length : Int) ≠ 0 := by omega
  obtain ⟨i, hi⟩ : ∃ i : Nat, k % (p.tasks.length : Int) = (i : Int) := ⟨(k % (p.tasks.length : Int)).toNat, by have := Int.emod_nonneg k hlen0; omega⟩
  have hil : i < p.tasks.length := by have := Int.emod_lt_of_pos k (show (0 : Int) < (p.tasks.length : Int) by omega); omega
  have hi2 : (i : Int) < (p.tasks.length : Int) := by omega
  have hi0 : (0 : Int) ≤ (i : Int) := by omega
  have HLE := Lib.hid (prgOk_le (okP_parts HOK.out).1)
  obtain ⟨tb, tf, q, rfl, hc, hin⟩ := HP2.out.2.2 i hil
  obtain ⟨t, ht⟩ : ∃ t, p.tasks.getD i Tsk.none = t := ⟨_, rfl⟩
  rw [ht] at hc hin
  have HT := Lib.hid ht
  have HIN := Lib.hid hin
  obtain ⟨⟨g0, g1, g2, g3, g4, g5, g6, g7⟩, _⟩ := tsk_cells (Below.refl _ _) hc
  obtain ⟨D, hD⟩ : ∃ D : World, w2.alloc (tskObj t q) = D := ⟨_, rfl⟩
  have hBD : Below w2.heap.size w2 D := by rw [← hD]; exact mem_alloc _ _
  have HBD : Hid (Below W.heap.size W D) := mem_then HB2.out hBD
  have HB2D := Lib.hid hBD
  have HTX : Hid (D.heap[w2.heap.size]? = some (tskObj t q)) := by show _ = _; rw [← hD]; exact mem_new _ _
  have HLT : Hid (w.heap.size < w2.heap.size) := Nat.lt_of_lt_of_le (mem_lt HBX.out) HB2.out.size
  have HINW : Hid (TskIn D t q) := HIN.out.below hBD
  have HK2 : Hid (∀ w', Below D.heap.size D w' → Below w.heap.size w w' ∧ w'.cell? ⟨w.heap.size, 0, none⟩ = some (.slice sa p.shared.length sc) ∧ w'.cell? ⟨w.heap.size, 1, none⟩ = some (.slice (some ⟨tb, tf, none⟩) p.tasks.length tc) ∧ PrgAt w' p sa (some ⟨tb, tf, none⟩) ∧ SignsIn w' ∧ w'.heap[w2.heap.size]? = some (tskObj t q) ∧ TskIn w' t q) := fun w' h => by
    obtain ⟨h1, h2, h3, h4, h5⟩ := HK.out w' (mem_then HBD.out h)
    exact ⟨h1, h2, h3, h4, h5, mem_keep HTX.out h, HINW.out.below h⟩
  have x2 : D.cell? ⟨w2.heap.size, 2, none⟩ = some (.slice q.va t.vars.length q.vc) := mem_cell HTX.out 2
  have hvl := HINW.out.vars.1
  have hal := HINW.out.arrays.1
  clear ht hc hin hBD h0
  obtain ⟨y, hy⟩ : ∃ y : Nat, ob % (p.shared.length : Int) = (y : Int) := ⟨(ob % (p.shared.length : Int)).toNat, by have := Int.emod_nonneg ob hs2; omega⟩
  have hyl : y < p.shared.length := by have := Int.emod_lt_of_pos ob hs1; omega
  have hyl2 : (y : Int) < (p.shared.length : Int) := by omega
  have hyl0 : (0 : Int) ≤ (y : Int) := by omega
  obtain ⟨sb, so, hsa, hsn, _, hss, _⟩ := HP2.out.1.2 y hyl
  obtain ⟨s, hs⟩ : ∃ s, (p.shared.getD y Arr.none).name = s := ⟨_, rfl⟩
  rw [hs] at hsn hss
  have HSM : Hid (s ∈ p.shared.map (·.name)) := List.mem_map.2 ⟨p.shared.getD y Arr.none, by simp [hyl], hs⟩
  obtain rfl : sa = some ⟨sb, so, none⟩ := hsa
  have HSN := Lib.hid hsn
  have HSS := Lib.hid hss
  clear hsn hs hss
  go_upto_region 5 with fail
  simp only [hi]
  clear g0 g1 g2 g3 g4 g5 g6 g7 hD
  obtain ⟨qva, qvc, qaa, qac, qka, qkc⟩ := q
  have HTOK : Hid (tskOk t = true) := by show _ = _; rw [← HT.out]; exact HLE.out.2.2 i hil
  have hwr : IntKind.i64.wrap ob = ob := by rw [IntKind.wrap_i64]; omega
  have hym : ob.tmod (p.shared.length : Int) = (y : Int) := by rw [Int.tmod_eq_emod_of_nonneg hob.1]; exact hy
  have hvne : p.shared ≠ [] := fun h => by rw [h] at hyl; exact absurd hyl (Nat.not_lt_zero _)
  have HC2 : Hid (∀ w', Below w2.heap.size w2 w' → w'.cell? ⟨w.heap.size, 0, none⟩ = some (.slice (some ⟨sb, so, none⟩) p.shared.length sc) ∧ w'.cell? ⟨sb, so + y * 2, none⟩ = some (.string s)) := fun w' h => by
    obtain ⟨_, h1, _⟩ := HK.out w' (mem_then HB2.out h)
    exact ⟨h1, cell_below h HSN.out⟩
  refine wp_region_held_drew (S := fun w' => Below w2.heap.size w2 w') (by kernel_rfl) (HB2D.out.drew) (fun hHeld => ?_)
  have HB0 : Hid (Below D.heap.size D (World.drew _)) := (Below.refl _ _).drew
  generalize hwd : World.drew _ = v0 at hHeld HB0 ⊢
  clear hwd
  refine wpAnyH_take (i := 0) (v := .pointer (some ⟨w.heap.size, 0, none⟩)) rfl (by kernel_rfl) (by kernel_rfl) (by kernel_rfl) (fun _ _ _ h => h) (Or.inl ⟨by rfl, ?_⟩) (by assumption) ?_
  · intro w' hSw; go_simp
  (try simp only [Act.put, List.getElem_toArray, List.getElem_cons_zero, List.setIfInBounds_toArray, List.set_cons_zero, List.set_cons_succ])
  refine wpAnyH_take (i := 1) (v := .slice (some ⟨sb, so, none⟩) p.shared.length sc) rfl (by kernel_rfl) (by kernel_rfl) (by kernel_rfl) (fun _ _ _ h => h) (Or.inl ⟨by rfl, ?_⟩) (by assumption) ?_
  · intro w' hSw; obtain ⟨z0, z1⟩ := HC2.out _ hSw; go_simp
  (try simp only [Act.put, List.getElem_toArray, List.getElem_cons_zero, List.getElem_cons_succ, List.setIfInBounds_toArray, List.set_cons_zero, List.set_cons_succ])
  refine wpAnyH_take (i := 2) (v := .int .u8 ob) rfl (by kernel_rfl) (by kernel_rfl) (by kernel_rfl) (fun _ _ _ h => h) (Or.inl ⟨by rfl, ?_⟩) (by assumption) ?_
  · intro w' hSw; go_simp
  (try simp only [Act.put, List.getElem_toArray, List.getElem_cons_zero, List.getElem_cons_succ, List.setIfInBounds_toArray, List.set_cons_zero, List.set_cons_succ])
  refine wpAnyH_take (i := 3) (v := .int .i64 ob) rfl (by kernel_rfl) (by kernel_rfl) (by kernel_rfl) (fun _ _ _ h => h) (Or.inl ⟨by rfl, ?_⟩) (by assumption) ?_
  · intro w' hSw; go_simp
  (try simp only [Act.put, List.getElem_toArray, List.getElem_cons_zero, List.getElem_cons_succ, List.setIfInBounds_toArray, List.set_cons_zero, List.set_cons_succ])
  refine wpAnyH_take (i := 4) (v := .pointer (some ⟨w.heap.size, 0, none⟩)) rfl (by kernel_rfl) (by kernel_rfl) (by kernel_rfl) (fun _ _ _ h => h) (Or.inl ⟨by rfl, ?_⟩) (by assumption) ?_
  · intro w' hSw; go_simp
  (try simp only [Act.put, List.getElem_toArray, List.getElem_cons_zero, List.getElem_cons_succ, List.setIfInBounds_toArray, List.set_cons_zero, List.set_cons_succ])
  refine wpAnyH_take (i := 5) (v := .slice (some ⟨sb, so, none⟩) p.shared.length sc) rfl (by kernel_rfl) (by kernel_rfl) (by kernel_rfl) (fun _ _ _ h => h) (Or.inl ⟨by rfl, ?_⟩) (by assumption) ?_
  · intro w' hSw; obtain ⟨z0, z1⟩ := HC2.out _ hSw; go_simp
  (try simp only [Act.put, List.getElem_toArray, List.getElem_cons_zero, List.getElem_cons_succ, List.setIfInBounds_toArray, List.set_cons_zero, List.set_cons_succ])
  refine wpAnyH_take (i := 6) (v := .int .i64 (p.shared.length : Int)) rfl (by kernel_rfl) (by kernel_rfl) (by kernel_rfl) (fun _ _ _ h => h) (Or.inl ⟨by rfl, ?_⟩) (by assumption) ?_
  · intro w' hSw; go_simp
  (try simp only [Act.put, List.getElem_toArray, List.getElem_cons_zero, List.getElem_cons_succ, List.setIfInBounds_toArray, List.set_cons_zero, List.set_cons_succ])
  refine wpAnyH_take (i := 7) (v := .int .i64 (y : Int)) rfl (by kernel_rfl) (by kernel_rfl) (by kernel_rfl) (fun _ _ _ h => h) (Or.inl ⟨by rfl, ?_⟩) (by assumption) ?_
  · intro w' hSw; go_simp
  (try simp only [Act.put, List.getElem_toArray, List.getElem_cons_zero, List.getElem_cons_succ, List.setIfInBounds_toArray, List.set_cons_zero, List.set_cons_succ])
  refine wpAnyH_take (i := 8) (v := .pointer (some ⟨sb, so + y * 2, none⟩)) rfl (by kernel_rfl) (by kernel_rfl) (by kernel_rfl) (fun _ _ _ h => h) (Or.inl ⟨by rfl, ?_⟩) (by assumption) ?_
  · intro w' hSw; go_simp
  (try simp only [Act.put, List.getElem_toArray, List.getElem_cons_zero, List.getElem_cons_succ, List.setIfInBounds_toArray, List.set_cons_zero, List.set_cons_succ])
  refine wpAnyH_take (i := 9) (v := .pointer (some ⟨sb, so + y * 2, none⟩)) rfl (by kernel_rfl) (by kernel_rfl) (by kernel_rfl) (fun _ _ _ h => h) (Or.inl ⟨by rfl, ?_⟩) (by assumption) ?_
  · intro w' hSw; go_simp
  (try simp only [Act.put, List.getElem_toArray, List.getElem_cons_zero, List.getElem_cons_succ, List.setIfInBounds_toArray, List.set_cons_zero, List.set_cons_succ])
  refine wpAnyH_take (i := 10) (v := .string s) rfl (by kernel_rfl) (by kernel_rfl) (by kernel_rfl) (fun _ _ _ h => h) (Or.inl ⟨by rfl, ?_⟩) (by assumption) ?_
  · intro w' hSw; obtain ⟨z0, z1⟩ := HC2.out _ hSw; go_simp
  (try simp only [Act.put, List.getElem_toArray, List.getElem_cons_zero, List.getElem_cons_succ, List.setIfInBounds_toArray, List.set_cons_zero, List.set_cons_succ])
  refine wpAnyH_take (i := 11) (v := .pointer (some ⟨w2.heap.size, 4, none⟩)) rfl (by kernel_rfl) (by kernel_rfl) (by kernel_rfl) (fun _ _ _ h => h) (Or.inl ⟨by rfl, ?_⟩) (by assumption) ?_
  · intro w' hSw; go_simp
  (try simp only [Act.put, List.getElem_toArray, List.getElem_cons_zero, List.getElem_cons_succ, List.setIfInBounds_toArray, List.set_cons_zero, List.set_cons_succ])
  have HX0 := Lib.hid (mem_keep HTX.out HB0.out)
  have x4 := mem_cell HX0.out 4
  have x5 := mem_cell HX0.out 5
  have x6 := mem_cell HX0.out 6
  have x7 := mem_cell HX0.out 7
  simp only [Tsk.cells, List.getElem?_toArray, List.getElem?_cons_zero, List.getElem?_cons_succ] at x4 x5 x6 x7
  refine wpAnyH_ready (rs := [12]) (by kernel_rfl) (by simp) (AllReadyH.cons rfl (fun K hK => ?_) AllReadyH.nil)
  go_simp
  refine hK.out _ _ (hHeld) (fun hHeld => ?_)
  clear hK K
  rename_i hOld
  clear hOld
  (try simp only [Act.put, List.getElem_toArray, List.getElem_cons_zero, List.getElem_cons_succ, List.setIfInBounds_toArray, List.set_cons_zero, List.set_cons_succ])
  clear x4 x5 x6 x7
  refine wpAnyH_ready (rs := [13]) (by kernel_rfl) (by simp) (AllReadyH.cons rfl (fun K hK => ?_) AllReadyH.nil)
  go_simp
  obtain ⟨w5, hw5⟩ : ∃ w5 : World, w5 = v0.alloc (.cells #[.int .u8 t.body.kind, .int .i64 t.body.num, .string t.body.name, .slice qka t.body.len qkc] 43) := ⟨_, rfl⟩
  rw [← hw5]
  have hX5 : w5.heap[v0.heap.size]? = some (.cells #[.int .u8 t.body.kind, .int .i64 t.body.num, .string t.body.name, .slice qka t.body.len qkc] 43) := by rw [hw5]; exact mem_new _ _
  have HB5 : Hid (Below D.heap.size D w5) := mem_then HB0.out (by rw [hw5]; exact mem_alloc _ _)
  have HX5 := Lib.hid hX5
  clear hw5 hX5
  have hD2 : w2.heap.size < D.heap.size := mem_lt HTX.out
  refine hK.out _ _ (HB2D.out.trans (HB5.out.mono (by omega))) (fun hHeld => ?_)
  clear hK K
  rename_i hOld
  clear hOld
  (try simp only [Act.put, List.getElem_toArray, List.getElem_cons_zero, List.getElem_cons_succ, List.setIfInBounds_toArray, List.set_cons_zero, List.set_cons_succ])
  refine wpAnyH_take (i := 14) (v := .agg #[.int .u8 46, .int .i64 0, .string s, .slice (some ⟨v0.heap.size, 0, none⟩) 1 1]) rfl (by kernel_rfl) (by kernel_rfl) (by kernel_rfl) (fun _ _ _ h => h) (Or.inl ⟨by rfl, ?_⟩) (by assumption) ?_
  · intro w' hSw; go_simp
  (try simp only [Act.put, List.getElem_toArray, List.getElem_cons_zero, List.getElem_cons_succ, List.setIfInBounds_toArray, List.set_cons_zero, List.set_cons_succ])
  refine wpAnyH_ready (rs := [15]) (by kernel_rfl) (by simp) (AllReadyH.cons rfl (fun K hK => ?_) AllReadyH.nil)
  go_simp
  obtain ⟨w6, hw6⟩ : ∃ w6 : World, w6 = w5.alloc (.cells #[.int .u8 46, .int .i64 0, .string s, .slice (some ⟨v0.heap.size, 0, none⟩) 1 1] 43) := ⟨_, rfl⟩
  rw [← hw6]
  have hX6 : w6.heap[w5.heap.size]? = some (.cells #[.int .u8 46, .int .i64 0, .string s, .slice (some ⟨v0.heap.size, 0, none⟩) 1 1] 43) := by rw [hw6]; exact mem_new _ _
  have hb6 : Below w5.heap.size w5 w6 := by rw [hw6]; exact mem_alloc _ _
  have HB6 : Hid (Below D.heap.size D w6) := mem_then HB5.out hb6
  have HX56 := Lib.hid (mem_keep HX5.out hb6)
  have HX6 := Lib.hid hX6
  clear hw6 hX6 hb6
  refine hK.out _ _ (HB2D.out.trans (HB6.out.mono (by omega))) (fun hHeld => ?_)
  clear hK K
  rename_i hOld
  clear hOld
  (try simp only [Act.put, List.getElem_toArray, List.getElem_cons_zero, List.getElem_cons_succ, List.setIfInBounds_toArray, List.set_cons_zero, List.set_cons_succ])
  refine wpAnyH_ready (rs := [16]) (by kernel_rfl) (by simp) (AllReadyH.cons rfl (fun K hK => ?_) AllReadyH.nil)
  go_simp
  have h7 := block_any w6 (some ⟨w5.heap.size, 0, none⟩) 1 1
  refine h7.mono ?_
  clear h7
  rintro e w7 ⟨rfl, hB7⟩
  have HB7 : Hid (Below D.heap.size D w7) := mem_then HB6.out hB7
  have HX57 := Lib.hid (mem_keep HX56.out hB7)
  have HX67 := Lib.hid (mem_keep HX6.out hB7)
  clear hB7
  refine hK.out _ _ (HB2D.out.trans (HB7.out.mono (by omega))) (fun hHeld => ?_)
  clear hK K
  rename_i hOld
  clear hOld
  (try simp only [Act.put, List.getElem_toArray, List.getElem_cons_zero, List.getElem_cons_succ, List.setIfInBounds_toArray, List.set_cons_zero, List.set_cons_succ])
  refine wpAnyH_take (i := 17) (v := .pointer (some ⟨w2.heap.size, 4, none⟩)) rfl (by kernel_rfl) (by kernel_rfl) (by kernel_rfl) (fun _ _ _ h => h) (Or.inl ⟨by rfl, ?_⟩) (by assumption) ?_
  · intro w' hSw; go_simp
  (try simp only [Act.put, List.getElem_toArray, List.getElem_cons_zero, List.getElem_cons_succ, List.setIfInBounds_toArray, List.set_cons_zero, List.set_cons_succ])
  have HX7 := Lib.hid (mem_keep HTX.out HB7.out)
  have x4 := mem_cell HX7.out 4
  have x5 := mem_cell HX7.out 5
  have x6 := mem_cell HX7.out 6
  have x7 := mem_cell HX7.out 7
  have f4 := mem_free HX7.out 4
  have f5 := mem_free HX7.out 5
  have f6 := mem_free HX7.out 6
  have f7 := mem_free HX7.out 7
  simp only [Tsk.cells, List.getElem?_toArray, List.getElem?_cons_zero, List.getElem?_cons_succ] at x4 x5 x6 x7
  refine wpAnyH_ready (rs := [18]) (by kernel_rfl) (by simp) (AllReadyH.cons rfl (fun K hK => ?_) AllReadyH.nil)
  go_simp
  obtain ⟨a3, ha3⟩ : ∃ a3 : Option Addr, a3 = some ⟨w5.heap.size, 0, none⟩ := ⟨_, rfl⟩
  rw [← ha3]
  obtain ⟨w4, hw4⟩ : ∃ w4 : World, w4 = (((w7.setCell ⟨w2.heap.size, 4, none⟩ (.int .u8 47)).setCell ⟨w2.heap.size, 5, none⟩ (.int .i64 0)).setCell ⟨w2.heap.size, 6, none⟩ (.string ⟨#[]⟩)).setCell ⟨w2.heap.size, 7, none⟩ (.slice a3 1 1) := ⟨_, rfl⟩
  rw [← hw4]
  obtain ⟨B, hBdef⟩ : ∃ B, nestT s t.body = B := ⟨_, rfl⟩
  have HBD3 := Lib.hid hBdef
  have h4 : w4.heap[w2.heap.size]? = some (tskObj (bodyT t B) ⟨qva, qvc, qaa, qac, a3, 1⟩) := by
    rw [hw4, mem_set (mem_set (mem_set (mem_set HX7.out))), ← hBdef]
    rfl
  have hb4 : Below w2.heap.size w2 w4 := by
    rw [hw4]
    have h := HB2D.out.trans (HB7.out.mono HB2D.out.size)
    exact (((h.setCell (p := ⟨w2.heap.size, 4, none⟩) (Nat.le_refl _) _).setCell (p := ⟨w2.heap.size, 5, none⟩) (Nat.le_refl _) _).setCell (p := ⟨w2.heap.size, 6, none⟩) (Nat.le_refl _) _).setCell (p := ⟨w2.heap.size, 7, none⟩) (Nat.le_refl _) _
  have hkeep : ∀ k, k ≠ w2.heap.size → w4.heap[k]? = w7.heap[k]? := fun k hn => by
    rw [hw4, Below.heap_setCell _ _ _ _ hn, Below.heap_setCell _ _ _ _ hn, Below.heap_setCell _ _ _ _ hn, Below.heap_setCell _ _ _ _ hn]
  have hr4 : Rep w4 B a3 := by
    have h5 : D.heap.size ≤ w5.heap.size := HB5.out.size
    have h0 : D.heap.size ≤ v0.heap.size := HB0.out.size
    have hX6 := (hkeep w5.heap.size (by omega)).trans HX67.out
    have hX5 := (hkeep v0.heap.size (by omega)).trans HX57.out
    have hR : Rep w4 t.body qka := HIN.out.body.below hb4
    rw [← hBdef, ha3]
    refine Rep.mk (make_fits 47 (by decide) _ (by decide) _ (by decide) _) (.inr ⟨w5.heap.size, 0, rfl, fun i hi => ?_⟩)
    have hi1 : i < 1 := hi
    obtain rfl : i = 0 := by omega
    rw [show (nestT s t.body).kid 0 = lockT s t.body from Tree.make_kid (by decide)]
    refine ⟨some ⟨v0.heap.size, 0, none⟩, 1, ⟨mem_cell hX6 0, mem_cell hX6 1, mem_cell hX6 2, mem_cell hX6 3⟩, Rep.mk (make_fits 46 (by decide) _ HSS.out _ (by decide) _) (.inr ⟨v0.heap.size, 0, rfl, fun i hi => ?_⟩)⟩
    have hi1 : i < 1 := hi
    obtain rfl : i = 0 := by omega
    rw [show (lockT s t.body).kid 0 = t.body from Tree.make_kid (by decide)]
    exact ⟨qka, qkc, ⟨mem_cell hX5 0, mem_cell hX5 1, mem_cell hX5 2, mem_cell hX5 3⟩, hR⟩
  clear x4 x5 x6 x7 f4 f5 f6 f7 hkeep hw4 ha3 hBdef
  refine hK.out _ _ (hb4) (fun hHeld => ?_)
  clear hK K
  rename_i hOld
  clear hOld
  (try simp only [Act.put, List.getElem_toArray, List.getElem_cons_zero, List.getElem_cons_succ, List.setIfInBounds_toArray, List.set_cons_zero, List.set_cons_succ])
  refine wpAnyH_done (by kernel_rfl) ?_ _
  have HB4 : Hid (Below W.heap.size W w4) := mem_then HB2.out hb4
  have HX4 := Lib.hid h4
  have HIN4 : Hid (TskIn w4 (bodyT t B) ⟨qva, qvc, qaa, qac, a3, 1⟩) := by
    have h6 := HIN.out.below hb4
    exact ⟨h6.name, h6.period, h6.vars, h6.arrays, hr4⟩
  have HK4 : Hid (∀ w', Below w4.heap.size w4 w' → Below w.heap.size w w' ∧ w'.cell? ⟨w.heap.size, 0, none⟩ = some (.slice (some ⟨sb, so, none⟩) p.shared.length sc) ∧ w'.cell? ⟨w.heap.size, 1, none⟩ = some (.slice (some ⟨tb, tf, none⟩) p.tasks.length tc) ∧ PrgAt w' p (some ⟨sb, so, none⟩) (some ⟨tb, tf, none⟩) ∧ SignsIn w' ∧ w'.heap[w2.heap.size]? = some (tskObj (bodyT t B) ⟨qva, qvc, qaa, qac, a3, 1⟩) ∧ TskIn w' (bodyT t B) ⟨qva, qvc, qaa, qac, a3, 1⟩) := fun w' h => by
    obtain ⟨h1, h2, h3, h4, h5⟩ := HK.out w' (mem_then HB4.out h)
    exact ⟨h1, h2, h3, h4, h5, mem_keep HX4.out h, HIN4.out.below h⟩
  clear h4 hb4 hr4 hHeld
  obtain ⟨_, y0, y1, hp4, hg4, hx4, hi4⟩ := HK4.out w4 (Below.refl _ _)
  have x0 := mem_cell hx4 0
  have x1 := mem_cell hx4 1
  have x2 := mem_cell hx4 2
  have x3 := mem_cell hx4 3
  have x4 := mem_cell hx4 4
  have x5 := mem_cell hx4 5
  have x6 := mem_cell hx4 6
  have x7 := mem_cell hx4 7
  simp only [Tsk.cells, bodyT, List.getElem?_toArray, List.getElem?_cons_zero, List.getElem?_cons_succ] at x0 x1 x2 x3 x4 x5 x6 x7
  have HP4 := Lib.hid hp4
  have HI4 := Lib.hid hi4
  clear hp4 hg4 hx4 hi4
  go_wp2_with fail
  clear x0 x1 x2 x3 x4 x5 x6 x7 y0 y1
  refine (swap_any p i (bodyT t B) ⟨qva, qvc, qaa, qac, a3, 1⟩ w4 (some ⟨sb, so, none⟩) (some ⟨tb, tf, none⟩) sc tc HP4.out HI4.out hil (by have := HLE.out.2.1; omega)).mono ?_
  rintro e w5 ⟨ta', tc', rfl, hp5, hB5⟩
  obtain ⟨E, hE⟩ : ∃ E : World, w5.alloc (prgObj (swapP p i (bodyT t B)) (some ⟨sb, so, none⟩) sc ta' tc') = E := ⟨_, rfl⟩
  have hBE : Below w5.heap.size w5 E := by rw [← hE]; exact mem_alloc _ _
  have HBE : Hid (Below w4.heap.size w4 E) := mem_then hB5 hBE
  have HQE : Hid (E.heap[w5.heap.size]? = some (prgObj (swapP p i (bodyT t B)) (some ⟨sb, so, none⟩) sc ta' tc')) := by show _ = _; rw [← hE]; exact mem_new _ _
  have HPE := Lib.hid (hp5.below hBE)
  have e0 := mem_cell HQE.out 0
  have e1 := mem_cell HQE.out 1
  simp only [List.getElem?_toArray, List.getElem?_cons_zero, List.getElem?_cons_succ] at e0 e1
  clear hp5 hB5 hBE
  go_wp2_with fail
  clear hE e0 e1
  refine (valid_any (swapP p i (bodyT t B)) E (some ⟨sb, so, none⟩) ta' sc tc' HPE.out (HK4.out E HBE.out).2.2.2.2.1).mono ?_
  rintro e w7 ⟨rfl, hB7⟩
  have HB7 : Hid (Below w4.heap.size w4 w7) := mem_then HBE.out hB7
  have HQ7 : Hid (w7.heap[w5.heap.size]? = some (prgObj (swapP p i (bodyT t B)) (some ⟨sb, so, none⟩) sc ta' tc')) := mem_keep HQE.out hB7
  have HP7 := Lib.hid (HPE.out.below hB7)
  clear hB7
  cases hv : prgOk (swapP p i (bodyT t B)) with
  | false =>
    clear hv
    go_wp2_with fail
    go_ret
    exact ⟨rfl, (HK4.out w7 HB7.out).1⟩
  | true =>
  have HV := Lib.hid hv
  have HTB : Hid (tskOk (bodyT t B) = true) := swap_valid hv hil
  clear hv
  obtain ⟨_, _, _, _, _, hx7, _⟩ := HK4.out w7 HB7.out
  have x4 := mem_cell hx7 4
  have x5 := mem_cell hx7 5
  have x6 := mem_cell hx7 6
  have x7 := mem_cell hx7 7
  simp only [Tsk.cells, bodyT, List.getElem?_toArray, List.getElem?_cons_zero, List.getElem?_cons_succ] at x4 x5 x6 x7
  clear hx7
  go_wp2_with fail
  clear x4 x5 x6 x7
  have h8 := where_cap isLockF 37 #[] (enters_of Tryd.func37 (by kernel_rfl) rfl) B w7 a3 1 (HK4.out w7 HB7.out).2.2.2.2.2.2.body (by have : B.size ≤ 400 := (tskOk_le HTB.out).2.2; omega) (by have : B.depth ≤ 16 := tskOk_depth HTB.out; omega) (fun x W' a c _ hr => isLock_any x W' a c hr)
  refine h8.mono ?_
  clear h8
  rintro e w8 ⟨a5, c5, rfl, hps, hB8, hc5⟩
  obtain ⟨L, hL⟩ : ∃ L, wantP isLockF (B.items []) = L := ⟨_, rfl⟩
  rw [hL] at hps hc5 ⊢
  have hq0 : L = [(0 : Int)] :: wantP isLockF (t.body.items [0, 0]) := by rw [← hL, ← HBD3.out, nest_want]
  have hlen : L.length ≤ 1000 := by
    have h1 := wantP_le isLockF (B.items [])
    rw [hL, its_length] at h1
    have : B.size ≤ 400 := (tskOk_le HTB.out).2.2
    omega
  have hpos : 0 < L.length := by rw [hq0]; simp
  obtain ⟨gb, gf, pa, pc, rfl, _, _⟩ := hps.2 0 hpos
  obtain ⟨n, hn⟩ : ∃ n, L.length = n := ⟨_, rfl⟩
  have HDL : Hid ((L.drop 1).length = n - 1) := by show _ = _; rw [List.length_drop, hn]
  obtain ⟨A2, hA2⟩ : ∃ A2 : Addr, A2 = if c5 = 1 then ⟨gb, gf, none⟩ else ⟨gb, gf + 1, none⟩ := ⟨_, rfl⟩
  have HADR := Lib.hid hA2
  have HPS : Hid (PathsAt w8 (some A2) (L.drop 1)) := by
    by_cases hq : c5 = 1
    · exact ⟨by rw [List.length_drop]; omega, fun i hi => by rw [List.length_drop] at hi; omega⟩
    · show PathsAt _ _ _
      rw [hA2, if_neg hq]
      exact hps.drop1
  have HONLY : Hid (onlyP (swapP p i (bodyT t B)) (i : Int) 12 (L.drop 1) = true) := by
    have h := HV.out
    show _ = _
    rw [← hL]
    rw [← HBD3.out] at h ⊢
    exact nest_only HT.out HOK.out hil HSM.out h
  have HOKQ : Hid (okP (swapP p i (bodyT t B)) = decide (n = 1)) := by
    have h := HV.out
    show _ = _
    rw [← hn, ← hL]
    rw [← HBD3.out] at h ⊢
    exact nest_okP HT.out HOK.out hil HSM.out h
  have HB8 : Hid (Below w4.heap.size w4 w8) := mem_then HB7.out hB8
  have HQ8 := Lib.hid (mem_keep HQ7.out hB8)
  have HP8 := Lib.hid (HP7.out.below hB8)
  rw [hn] at hc5 hlen hpos ⊢
  obtain ⟨m, hm⟩ : ∃ m, decide (n = 1) = m := ⟨_, rfl⟩
  rw [hm] at HOKQ
  have hmb : ((n : Int) == 1) = m := by rw [← hm]; by_cases h : n = 1 <;> simp [h] <;> omega
  clear hL hq0 hn hA2 hps hB8 hm
  have HKF : Hid (∀ w', Below w8.heap.size w8 w' → w'.heap[w5.heap.size]? = some (prgObj (swapP p i (bodyT t B)) (some ⟨sb, so, none⟩) sc ta' tc') ∧ PrgAt w' (swapP p i (bodyT t B)) (some ⟨sb, so, none⟩) ta' ∧ SignsIn w' ∧ Below w.heap.size w w') := fun w' h => by
    obtain ⟨h1, _, _, _, h5, _⟩ := HK4.out w' (mem_then HB8.out h)
    exact ⟨mem_keep HQ8.out h, HP8.out.below h, h5, h1⟩
  have hp1 : (0 : Int) < (n : Int) := by omega
  have hp2 : decide ((0 : Int) < (n : Int)) = true := decide_eq_true hp1
  have hp3 : (1 : Int) ≤ (n : Int) := by omega
  have hp4 : 1 ≤ n := hpos
  have hp5 : (n : Int) ≤ (c5 : Int) := by omega
  have hp6 : 1 ≤ c5 := by omega
  have hp7 : (1 : Int) ≤ (c5 : Int) := by omega
  go_wp2_with fail
  refine wp_region_held_drew (S := fun w' => Below w8.heap.size w8 w') (by kernel_rfl) ((Below.refl _ _).drew) (fun hHeld => ?_)
  generalize hwd : World.drew _ = v0 at hHeld ⊢
  clear hwd
  refine wpAnyH_take (i := 0) (v := .slice (some ⟨gb, gf, none⟩) n c5) rfl (by kernel_rfl) (by kernel_rfl) (by kernel_rfl) (fun _ _ _ h => h) (Or.inl ⟨by rfl, ?_⟩) (by assumption) ?_
  · intro w' hSw; go_simp
  (try simp only [Act.put, List.getElem_toArray, List.getElem_cons_zero, List.setIfInBounds_toArray, List.set_cons_zero, List.set_cons_succ])
  refine wpAnyH_take (i := 1) (v := .int .i64 (n : Int)) rfl (by kernel_rfl) (by kernel_rfl) (by kernel_rfl) (fun _ _ _ h => h) (Or.inl ⟨by rfl, ?_⟩) (by assumption) ?_
  · intro w' hSw; go_simp
  (try simp only [Act.put, List.getElem_toArray, List.getElem_cons_zero, List.getElem_cons_succ, List.setIfInBounds_toArray, List.set_cons_zero, List.set_cons_succ])
  refine wpAnyH_take (i := 2) (v := .bool true) rfl (by kernel_rfl) (by kernel_rfl) (by kernel_rfl) (fun _ _ _ h => h) (Or.inl ⟨by rfl, ?_⟩) (by assumption) ?_
  · intro w' hSw; go_simp
  (try simp only [Act.put, List.getElem_toArray, List.getElem_cons_zero, List.getElem_cons_succ, List.setIfInBounds_toArray, List.set_cons_zero, List.set_cons_succ])
  refine wpAnyH_take (i := 3) (v := .bool true) rfl (by kernel_rfl) (by kernel_rfl) (by kernel_rfl) (fun _ _ _ h => h) (Or.inl ⟨by rfl, ?_⟩) (by assumption) ?_
  · intro w' hSw; go_simp
  (try simp only [Act.put, List.getElem_toArray, List.getElem_cons_zero, List.getElem_cons_succ, List.setIfInBounds_toArray, List.set_cons_zero, List.set_cons_succ])
  refine wpAnyH_take (i := 4) (v := .agg #[.slice (some ⟨sb, so, none⟩) (swapP p i (bodyT t B)).shared.length sc, .slice ta' (swapP p i (bodyT t B)).tasks.length tc']) rfl (by kernel_rfl) (by kernel_rfl) (by kernel_rfl) (fun _ _ _ h => h) (Or.inl ⟨by rfl, ?_⟩) (by assumption) ?_
  · intro w' hSw; have hx := (HKF.out _ hSw).1; have z0 := mem_cell hx 0; have z1 := mem_cell hx 1; simp only [List.getElem?_toArray, List.getElem?_cons_zero, List.getElem?_cons_succ] at z0 z1; go_simp
  (try simp only [Act.put, List.getElem_toArray, List.getElem_cons_zero, List.getElem_cons_succ, List.setIfInBounds_toArray, List.set_cons_zero, List.set_cons_succ])
  refine wpAnyH_take (i := 5) (v := .int .i64 (i : Int)) rfl (by kernel_rfl) (by kernel_rfl) (by kernel_rfl) (fun _ _ _ h => h) (Or.inl ⟨by rfl, ?_⟩) (by assumption) ?_
  · intro w' hSw; go_simp
  (try simp only [Act.put, List.getElem_toArray, List.getElem_cons_zero, List.getElem_cons_succ, List.setIfInBounds_toArray, List.set_cons_zero, List.set_cons_succ])
  refine wpAnyH_take (i := 6) (v := .slice (some ⟨gb, gf, none⟩) n c5) rfl (by kernel_rfl) (by kernel_rfl) (by kernel_rfl) (fun _ _ _ h => h) (Or.inl ⟨by rfl, ?_⟩) (by assumption) ?_
  · intro w' hSw; go_simp
  (try simp only [Act.put, List.getElem_toArray, List.getElem_cons_zero, List.getElem_cons_succ, List.setIfInBounds_toArray, List.set_cons_zero, List.set_cons_succ])
  refine wpAnyH_take (i := 7) (v := .slice (some A2) (n - 1) (c5 - 1)) rfl (by kernel_rfl) (by kernel_rfl) (by kernel_rfl) (fun _ _ _ h => h) (Or.inl ⟨by rfl, ?_⟩) (by assumption) ?_
  · intro w' hSw; go_simp; (rw [HADR.out]; split <;> rfl)
  (try simp only [Act.put, List.getElem_toArray, List.getElem_cons_zero, List.getElem_cons_succ, List.setIfInBounds_toArray, List.set_cons_zero, List.set_cons_succ])
  refine wpAnyH_ready (rs := [8]) (by kernel_rfl) (by simp) (AllReadyH.cons rfl (fun K hK => ?_) AllReadyH.nil)
  go_simp
  have hk0 := HKF.out v0 hHeld
  have h9 := only_any (swapP p i (bodyT t B)) (i : Int) 12 (L.drop 1) v0 (some ⟨sb, so, none⟩) ta' (some A2) sc tc' (c5 - 1) hk0.2.1 hk0.2.2.1 (HPS.out.below hHeld)
  rw [HDL.out, HONLY.out] at h9
  refine h9.mono ?_
  clear h9 hk0
  rintro e w9 ⟨rfl, hB9⟩
  have HB9 : Hid (Below w8.heap.size w8 w9) := mem_then hHeld hB9
  clear hB9
  refine hK.out _ _ (HB9.out) (fun hHeld => ?_)
  clear hK K
  rename_i hOld
  clear hOld
  (try simp only [Act.put, List.getElem_toArray, List.getElem_cons_zero, List.getElem_cons_succ, List.setIfInBounds_toArray, List.set_cons_zero, List.set_cons_succ])
  refine wpAnyH_take (i := 9) (v := .bool true) rfl (by kernel_rfl) (by kernel_rfl) (by kernel_rfl) (fun _ _ _ h => h) (Or.inl ⟨by rfl, ?_⟩) (by assumption) ?_
  · intro w' hSw; go_simp
  (try simp only [Act.put, List.getElem_toArray, List.getElem_cons_zero, List.getElem_cons_succ, List.setIfInBounds_toArray, List.set_cons_zero, List.set_cons_succ])
  refine wpAnyH_take (i := 10) (v := .bool true) rfl (by kernel_rfl) (by kernel_rfl) (by kernel_rfl) (fun _ _ _ h => h) (Or.inl ⟨by rfl, ?_⟩) (by assumption) ?_
  · intro w' hSw; go_simp
  (try simp only [Act.put, List.getElem_toArray, List.getElem_cons_zero, List.getElem_cons_succ, List.setIfInBounds_toArray, List.set_cons_zero, List.set_cons_succ])
  refine wpAnyH_take (i := 11) (v := .agg #[.slice (some ⟨sb, so, none⟩) (swapP p i (bodyT t B)).shared.length sc, .slice ta' (swapP p i (bodyT t B)).tasks.length tc']) rfl (by kernel_rfl) (by kernel_rfl) (by kernel_rfl) (fun _ _ _ h => h) (Or.inl ⟨by rfl, ?_⟩) (by assumption) ?_
  · intro w' hSw; have hx := (HKF.out _ hSw).1; have z0 := mem_cell hx 0; have z1 := mem_cell hx 1; simp only [List.getElem?_toArray, List.getElem?_cons_zero, List.getElem?_cons_succ] at z0 z1; go_simp
  (try simp only [Act.put, List.getElem_toArray, List.getElem_cons_zero, List.getElem_cons_succ, List.setIfInBounds_toArray, List.set_cons_zero, List.set_cons_succ])
  refine wpAnyH_take (i := 13) (v := .slice (some ⟨gb, gf, none⟩) n c5) rfl (by kernel_rfl) (by kernel_rfl) (by kernel_rfl) (fun _ _ _ h => h) (Or.inl ⟨by rfl, ?_⟩) (by assumption) ?_
  · intro w' hSw; go_simp
  (try simp only [Act.put, List.getElem_toArray, List.getElem_cons_zero, List.getElem_cons_succ, List.setIfInBounds_toArray, List.set_cons_zero, List.set_cons_succ])
  refine wpAnyH_take (i := 14) (v := .int .i64 (n : Int)) rfl (by kernel_rfl) (by kernel_rfl) (by kernel_rfl) (fun _ _ _ h => h) (Or.inl ⟨by rfl, ?_⟩) (by assumption) ?_
  · intro w' hSw; go_simp
  (try simp only [Act.put, List.getElem_toArray, List.getElem_cons_zero, List.getElem_cons_succ, List.setIfInBounds_toArray, List.set_cons_zero, List.set_cons_succ])
  refine wpAnyH_take (i := 15) (v := .bool m) rfl (by kernel_rfl) (by kernel_rfl) (by kernel_rfl) (fun _ _ _ h => h) (Or.inl ⟨by rfl, ?_⟩) (by assumption) ?_
  · intro w' hSw; go_simp
  (try simp only [Act.put, List.getElem_toArray, List.getElem_cons_zero, List.getElem_cons_succ, List.setIfInBounds_toArray, List.set_cons_zero, List.set_cons_succ])
  refine wpAnyH_ready (rs := [12]) (by kernel_rfl) (by simp) (AllReadyH.cons rfl (fun K hK => ?_) AllReadyH.nil)
  go_simp
  have hk1 := HKF.out w9 HB9.out
  have h10 := ok15_any (swapP p i (bodyT t B)) w9 (some ⟨sb, so, none⟩) ta' sc tc' hk1.2.1 hk1.2.2.1
  rw [HOKQ.out] at h10
  refine h10.mono ?_
  clear h10 hk1
  rintro e w10 ⟨rfl, hB10⟩
  have HB10 : Hid (Below w8.heap.size w8 w10) := mem_then HB9.out hB10
  clear hB10
  refine hK.out _ _ (HB10.out) (fun hHeld => ?_)
  clear hK K
  rename_i hOld
  clear hOld
  (try simp only [Act.put, List.getElem_toArray, List.getElem_cons_zero, List.getElem_cons_succ, List.setIfInBounds_toArray, List.set_cons_zero, List.set_cons_succ])
  refine wpAnyH_take (i := 16) (v := .bool true) rfl (by kernel_rfl) (by kernel_rfl) (by kernel_rfl) (fun _ _ _ h => h) (Or.inl ⟨by rfl, ?_⟩) (by assumption) ?_
  · intro w' hSw; go_simp
  (try simp only [Act.put, List.getElem_toArray, List.getElem_cons_zero, List.getElem_cons_succ, List.setIfInBounds_toArray, List.set_cons_zero, List.set_cons_succ])
  refine wpAnyH_take (i := 17) (v := .bool true) rfl (by kernel_rfl) (by kernel_rfl) (by kernel_rfl) (fun _ _ _ h => h) (Or.inl ⟨by rfl, ?_⟩) (by assumption) ?_
  · intro w' hSw; go_simp
  (try simp only [Act.put, List.getElem_toArray, List.getElem_cons_zero, List.getElem_cons_succ, List.setIfInBounds_toArray, List.set_cons_zero, List.set_cons_succ])
  refine wpAnyH_ready (rs := [18]) (by kernel_rfl) (by simp) (AllReadyH.cons rfl (fun K hK => ?_) AllReadyH.nil)
  go_simp
  refine hK.out _ _ (HB10.out) (fun hHeld => ?_)
  clear hK K
  rename_i hOld
  clear hOld
  (try simp only [Act.put, List.getElem_toArray, List.getElem_cons_zero, List.getElem_cons_succ, List.setIfInBounds_toArray, List.set_cons_zero, List.set_cons_succ])
  refine wpAnyH_done (by kernel_rfl) ?_ _
  clear hHeld
  go_wp2_with fail
  go_ret
  exact ⟨rfl, (HKF.out w10 HB10.out).2.2.2⟩
end Go.Proofs.YtnegdmhmhdojbaaDoor
