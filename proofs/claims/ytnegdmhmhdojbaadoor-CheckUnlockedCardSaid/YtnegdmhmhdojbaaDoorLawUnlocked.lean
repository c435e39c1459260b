/-
  The law CheckUnlocked: without Lock statements exactly the accesses to shared objects are faults.
-/
import Derived.Test.YtnegdmhmhdojbaaDoorChkUnlock
import Derived.Test.YtnegdmhmhdojbaaDoorApps
import Derived.Test.YtnegdmhmhdojbaaDoorSmalls
import Derived.Test.YtnegdmhmhdojbaaDoorChkAwake
namespace Go.Proofs.YtnegdmhmhdojbaaDoor
set_option linter.unusedVariables false
set_option linter.unusedSimpArgs false
open Go.RowKit
set_option maxRecDepth 100000
set_option maxHeartbeats 80000000

theorem checkUnlocked_any (p : Prg) (k : Int) (w : World) (sa ta : Option Addr) (sc tc : Nat) (hp : PrgAt w p sa ta) (hg : SignsIn w) (hk : 0 ≤ k ∧ k ≤ 255) :
    Calls Tryd.prog 8 #[p.val sa sc ta tc, .int .u8 k] w fun e w' => e = .returned (.bool true) ∧ Below w.heap.size w w' := by
  have hsl := hp.1.1
  have htl := hp.2.1
  obtain ⟨W, hW⟩ : ∃ W : World, w.alloc (prgObj p sa sc ta tc) = W := ⟨_, rfl⟩
  have HBW : Hid (Below w.heap.size w W) := by show Below _ _ _; rw [← hW]; exact mem_alloc _ _
  have HBX : Hid (W.heap[w.heap.size]? = some (prgObj p sa sc ta tc)) := by show _ = _; rw [← hW]; exact mem_new _ _
  have HP := Lib.hid (hp.below HBW.out)
  have HG := Lib.hid (hg.below HBW.out)
  -- what every later world keeps
  have HK : Hid (∀ w', Below W.heap.size W w' → Below w.heap.size w w' ∧ w'.cell? ⟨w.heap.size, 0, none⟩ = some (.slice sa p.shared.length sc) ∧ w'.cell? ⟨w.heap.size, 1, none⟩ = some (.slice ta p.tasks.length tc) ∧ PrgAt w' p sa ta ∧ SignsIn w') := fun w' h => by
    have hb := mem_keep HBX.out h
    exact ⟨HBW.out.trans (h.mono HBW.out.size), mem_cell hb 0, mem_cell hb 1, HP.out.below h, HG.out.below h⟩
  clear hp hg
  go_enter Tryd.func8, Tryd.ntmps8
  go_wp2_with fail
  clear hW
  refine (awake15_any W HG.out).mono ?_
  rintro e w1 ⟨rfl, hB1⟩
  have HB1 := Lib.hid hB1
  obtain ⟨_, y0, y1, hp1, hg1⟩ := HK.out w1 hB1
  have HP1 := Lib.hid hp1
  have HG1 := Lib.hid hg1
  clear hp1 hg1 hB1
  go_wp2_with fail
  clear y0 y1
  refine (clean_any p w1 sa ta sc tc HP1.out HG1.out).mono ?_
  rintro e w2 ⟨rfl, hB2⟩
  have HB2 : Hid (Below W.heap.size W w2) := mem_then HB1.out hB2
  obtain ⟨_, y0, y1, hp2, hg2⟩ := HK.out w2 HB2.out
  have HP2 := Lib.hid hp2
  have HG2 := Lib.hid hg2
  have HAW : Hid (∀ w', Below W.heap.size W w' → Calls Tryd.prog 12 #[] w' fun e w'' => e = .returned (.bool true) ∧ Below w.heap.size w w'') := fun w' h => by
    refine (awake15_any w' (HG.out.below h)).mono ?_
    rintro e w9 ⟨he, hB9⟩
    exact ⟨he, (HK.out w9 (mem_then h hB9)).1⟩
  clear hB2 hp2 hg2
  cases hs : cleanP p with
  | false =>
    go_wp2_with fail
    refine (HAW.out w2 HB2.out).mono ?_
    rintro e w3 ⟨rfl, hB3⟩
    have HB3 := Lib.hid hB3
    clear hB3
    go_wp2_with fail
    go_ret
    exact ⟨rfl, HB3.out⟩
  | true =>
  have HOK : Hid (okP p = true) := by
    unfold cleanP at hs
    exact (Bool.and_eq_true _ _ ▸ hs).2
  clear hs
  by_cases h0 : p.tasks.length = 0
  · have hz : ((p.tasks.length : Int) == 0) = true := by simp [h0]
    clear h0
    go_wp2_with fail
    refine (HAW.out w2 HB2.out).mono ?_
    rintro e w3 ⟨rfl, hB3⟩
    have HB3 := Lib.hid hB3
    clear hB3
    go_wp2_with fail
    go_ret
    exact ⟨rfl, HB3.out⟩
  have hz : ((p.tasks.length : Int) == 0) = false := by rw [beq_eq_false_iff_ne]; omega
  have hlen0 : (p.tasks.length : Int) ≠ 0 := by omega
  obtain ⟨i, hi⟩ : ∃ i : Nat, k % (p.tasks.length : Int) = (i : Int) := ⟨(k % (p.tasks.length : Int)).toNat, by have := Int.emod_nonneg k hlen0; omega⟩
  have hil : i < p.tasks.length := by have := Int.emod_lt_of_pos k (show (0 : Int) < (p.tasks.length : Int) by omega); omega
  have hi2 : (i : Int) < (p.tasks.length : Int) := by omega
  have hi0 : (0 : Int) ≤ (i : Int) := by omega
  have HLE := Lib.hid (prgOk_le (okP_parts HOK.out).1)
  obtain ⟨tb, tf, q, rfl, hc, hin⟩ := HP2.out.2.2 i hil
  obtain ⟨t, ht⟩ : ∃ t, p.tasks.getD i Tsk.none = t := ⟨_, rfl⟩
  rw [ht] at hc hin
  have HT := Lib.hid ht
  have HIN := Lib.hid hin
  obtain ⟨⟨g0, g1, g2, g3, g4, g5, g6, g7⟩, _⟩ := tsk_cells (Below.refl _ _) hc
  obtain ⟨D, hD⟩ : ∃ D : World, w2.alloc (tskObj t q) = D := ⟨_, rfl⟩
  have hBD : Below w2.heap.size w2 D := by rw [← hD]; exact mem_alloc _ _
  have HBD : Hid (Below W.heap.size W D) := mem_then HB2.out hBD
  have HB2D := Lib.hid hBD
  have HTX : Hid (D.heap[w2.heap.size]? = some (tskObj t q)) := by show _ = _; rw [← hD]; exact mem_new _ _
  have HLT : Hid (w.heap.size < w2.heap.size) := Nat.lt_of_lt_of_le (mem_lt HBX.out) HB2.out.size
  have HINW : Hid (TskIn D t q) := HIN.out.below hBD
  have HK2 : Hid (∀ w', Below D.heap.size D w' → Below w.heap.size w w' ∧ w'.cell? ⟨w.heap.size, 0, none⟩ = some (.slice sa p.shared.length sc) ∧ w'.cell? ⟨w.heap.size, 1, none⟩ = some (.slice (some ⟨tb, tf, none⟩) p.tasks.length tc) ∧ PrgAt w' p sa (some ⟨tb, tf, none⟩) ∧ SignsIn w' ∧ w'.heap[w2.heap.size]? = some (tskObj t q) ∧ TskIn w' t q) := fun w' h => by
    obtain ⟨h1, h2, h3, h4, h5⟩ := HK.out w' (mem_then HBD.out h)
    exact ⟨h1, h2, h3, h4, h5, mem_keep HTX.out h, HINW.out.below h⟩
  have x2 : D.cell? ⟨w2.heap.size, 2, none⟩ = some (.slice q.va t.vars.length q.vc) := mem_cell HTX.out 2
  have hvl := HINW.out.vars.1
  have hal := HINW.out.arrays.1
  clear ht hc hin hBD h0
  go_upto_region 5 with fail
  simp only [hi]
  clear g0 g1 g2 g3 g4 g5 g6 g7 hD
  obtain ⟨qva, qvc, qaa, qac, qka, qkc⟩ := q
  have x4 := mem_cell HTX.out 4
  have x5 := mem_cell HTX.out 5
  have x6 := mem_cell HTX.out 6
  have x7 := mem_cell HTX.out 7
  simp only [Tsk.cells, List.getElem?_toArray, List.getElem?_cons_zero, List.getElem?_cons_succ] at x4 x5 x6 x7
  have HTOK : Hid (tskOk t = true) := by show _ = _; rw [← HT.out]; exact HLE.out.2.2 i hil
  go_wp2_with fail
  refine (edit_any unlockN lockQ 32 #[] (enters_of Tryd.func32 (by kernel_rfl) rfl) D (fun x S W a c _ hq hr => unlock1_any x S W a c hq hr) t.body D qka qkc (Below.refl _ _) (lock_ok t.body 98 (tskOk_vld HTOK.out)) HINW.out.body (by have := (tskOk_le HTOK.out).2.2; omega)).mono ?_
  rintro e w3 ⟨a3, c3, rfl, hr3, hB3⟩
  obtain ⟨B, hBdef⟩ : ∃ B, editT unlockN t.body = B := ⟨_, rfl⟩
  rw [hBdef] at hr3 ⊢
  have HBD3 := Lib.hid hBdef
  have HR3 := Lib.hid hr3
  have HB3 := Lib.hid hB3
  have HX3 := Lib.hid (HK2.out w3 hB3).2.2.2.2.2.1
  have x4 := mem_cell HX3.out 4
  have x5 := mem_cell HX3.out 5
  have x6 := mem_cell HX3.out 6
  have x7 := mem_cell HX3.out 7
  have f4 := mem_free HX3.out 4
  have f5 := mem_free HX3.out 5
  have f6 := mem_free HX3.out 6
  have f7 := mem_free HX3.out 7
  simp only [Tsk.cells, List.getElem?_toArray, List.getElem?_cons_zero, List.getElem?_cons_succ] at x4 x5 x6 x7
  clear hr3 hB3 hBdef
  go_upto_region 6 with fail
  obtain ⟨w4, hw4⟩ : ∃ w4 : World, w4 = (((w3.setCell ⟨w2.heap.size, 4, none⟩ (.int .u8 B.kind)).setCell ⟨w2.heap.size, 5, none⟩ (.int .i64 B.num)).setCell ⟨w2.heap.size, 6, none⟩ (.string B.name)).setCell ⟨w2.heap.size, 7, none⟩ (.slice a3 B.len c3) := ⟨_, rfl⟩
  rw [← hw4]
  have h4 : w4.heap[w2.heap.size]? = some (tskObj (bodyT t B) ⟨qva, qvc, qaa, qac, a3, c3⟩) := by
    rw [hw4, mem_set (mem_set (mem_set (mem_set HX3.out)))]
    rfl
  have hb4 : Below w2.heap.size w2 w4 := by
    rw [hw4]
    have h := HB2D.out.trans (HB3.out.mono HB2D.out.size)
    exact (((h.setCell (p := ⟨w2.heap.size, 4, none⟩) (Nat.le_refl _) _).setCell (p := ⟨w2.heap.size, 5, none⟩) (Nat.le_refl _) _).setCell (p := ⟨w2.heap.size, 6, none⟩) (Nat.le_refl _) _).setCell (p := ⟨w2.heap.size, 7, none⟩) (Nat.le_refl _) _
  have hr4 : Rep w4 B a3 := by
    have hDs := mem_lt HTX.out
    refine (HR3.out.move (S' := fun _ => True) (fun k hk _ => ?_) (fun _ _ _ => trivial)).rep
    have hn : k ≠ w2.heap.size := by omega
    rw [hw4, Below.heap_setCell _ _ _ _ hn, Below.heap_setCell _ _ _ _ hn, Below.heap_setCell _ _ _ _ hn, Below.heap_setCell _ _ _ _ hn]
  have HB4 : Hid (Below W.heap.size W w4) := mem_then HB2.out hb4
  have HX4 := Lib.hid h4
  have HIN4 : Hid (TskIn w4 (bodyT t B) ⟨qva, qvc, qaa, qac, a3, c3⟩) := by
    have h6 := HIN.out.below hb4
    exact ⟨h6.name, h6.period, h6.vars, h6.arrays, hr4⟩
  have HK4 : Hid (∀ w', Below w4.heap.size w4 w' → Below w.heap.size w w' ∧ w'.cell? ⟨w.heap.size, 0, none⟩ = some (.slice sa p.shared.length sc) ∧ w'.cell? ⟨w.heap.size, 1, none⟩ = some (.slice (some ⟨tb, tf, none⟩) p.tasks.length tc) ∧ PrgAt w' p sa (some ⟨tb, tf, none⟩) ∧ SignsIn w' ∧ w'.heap[w2.heap.size]? = some (tskObj (bodyT t B) ⟨qva, qvc, qaa, qac, a3, c3⟩) ∧ TskIn w' (bodyT t B) ⟨qva, qvc, qaa, qac, a3, c3⟩) := fun w' h => by
    obtain ⟨h1, h2, h3, h4, h5⟩ := HK.out w' (mem_then HB4.out h)
    exact ⟨h1, h2, h3, h4, h5, mem_keep HX4.out h, HIN4.out.below h⟩
  clear hw4 h4 hb4 hr4 x4 x5 x6 x7 f4 f5 f6 f7
  obtain ⟨_, y0, y1, hp4, hg4, hx4, hi4⟩ := HK4.out w4 (Below.refl _ _)
  have x0 := mem_cell hx4 0
  have x1 := mem_cell hx4 1
  have x2 := mem_cell hx4 2
  have x3 := mem_cell hx4 3
  have x4 := mem_cell hx4 4
  have x5 := mem_cell hx4 5
  have x6 := mem_cell hx4 6
  have x7 := mem_cell hx4 7
  simp only [Tsk.cells, bodyT, List.getElem?_toArray, List.getElem?_cons_zero, List.getElem?_cons_succ] at x0 x1 x2 x3 x4 x5 x6 x7
  have HP4 := Lib.hid hp4
  have HI4 := Lib.hid hi4
  clear hp4 hg4 hx4 hi4
  go_wp2_with fail
  clear x0 x1 x2 x3 x4 x5 x6 x7 y0 y1
  refine (swap_any p i (bodyT t B) ⟨qva, qvc, qaa, qac, a3, c3⟩ w4 sa (some ⟨tb, tf, none⟩) sc tc HP4.out HI4.out hil (by have := HLE.out.2.1; omega)).mono ?_
  rintro e w5 ⟨ta', tc', rfl, hp5, hB5⟩
  obtain ⟨E, hE⟩ : ∃ E : World, w5.alloc (prgObj (swapP p i (bodyT t B)) sa sc ta' tc') = E := ⟨_, rfl⟩
  have hBE : Below w5.heap.size w5 E := by rw [← hE]; exact mem_alloc _ _
  have HBE : Hid (Below w4.heap.size w4 E) := mem_then hB5 hBE
  have HQE : Hid (E.heap[w5.heap.size]? = some (prgObj (swapP p i (bodyT t B)) sa sc ta' tc')) := by show _ = _; rw [← hE]; exact mem_new _ _
  have HPE := Lib.hid (hp5.below hBE)
  have e0 := mem_cell HQE.out 0
  have e1 := mem_cell HQE.out 1
  simp only [List.getElem?_toArray, List.getElem?_cons_zero, List.getElem?_cons_succ] at e0 e1
  clear hp5 hB5 hBE
  go_wp2_with fail
  clear hE e0 e1
  refine (valid_any (swapP p i (bodyT t B)) E sa ta' sc tc' HPE.out (HK4.out E HBE.out).2.2.2.2.1).mono ?_
  rintro e w7 ⟨rfl, hB7⟩
  have HB7 : Hid (Below w4.heap.size w4 w7) := mem_then HBE.out hB7
  have HQ7 : Hid (w7.heap[w5.heap.size]? = some (prgObj (swapP p i (bodyT t B)) sa sc ta' tc')) := mem_keep HQE.out hB7
  have HP7 := Lib.hid (HPE.out.below hB7)
  clear hB7
  cases hv : prgOk (swapP p i (bodyT t B)) with
  | false =>
    clear hv
    go_wp2_with fail
    go_ret
    exact ⟨rfl, (HK4.out w7 HB7.out).1⟩
  | true =>
  have HV := Lib.hid hv
  have HTB : Hid (tskOk (bodyT t B) = true) := swap_valid hv hil
  clear hv
  obtain ⟨F, hF⟩ : ∃ F : World, w7.alloc (.cells #[.func (.func 34) #[] #[.pointer (some ⟨w2.heap.size, 0, none⟩)]] 65) = F := ⟨_, rfl⟩
  have hBF : Below w7.heap.size w7 F := by rw [← hF]; exact mem_alloc _ _
  have HBF : Hid (Below w4.heap.size w4 F) := mem_then HB7.out hBF
  have HFX : Hid (F.heap[w7.heap.size]? = some (.cells #[.func (.func 34) #[] #[.pointer (some ⟨w2.heap.size, 0, none⟩)]] 65)) := by show _ = _; rw [← hF]; exact mem_new _ _
  have HQF := Lib.hid (mem_keep HQ7.out hBF)
  have HPF := Lib.hid (HP7.out.below hBF)
  clear hBF
  go_wp2_with fail
  clear hF
  refine wp_region_held_drew (S := fun w' => Below F.heap.size F w') (by kernel_rfl) ((Below.refl _ _).drew) (fun hHeld => ?_)
  generalize hwd : World.drew _ = v0 at hHeld ⊢
  clear hwd
  have HKF : Hid (∀ w', Below F.heap.size F w' → w'.heap[w5.heap.size]? = some (prgObj (swapP p i (bodyT t B)) sa sc ta' tc') ∧ w'.heap[w2.heap.size]? = some (tskObj (bodyT t B) ⟨qva, qvc, qaa, qac, a3, c3⟩) ∧ TskIn w' (bodyT t B) ⟨qva, qvc, qaa, qac, a3, c3⟩ ∧ SignsIn w' ∧ Below w.heap.size w w') := fun w' h => by
    obtain ⟨h1, _, _, _, h5, h6, h7⟩ := HK4.out w' (mem_then HBF.out h)
    exact ⟨mem_keep HQF.out h, h6, h7, h5, h1⟩
  refine wpAnyH_take (i := 0) (v := .agg #[.slice sa (swapP p i (bodyT t B)).shared.length sc, .slice ta' (swapP p i (bodyT t B)).tasks.length tc']) rfl (by kernel_rfl) (by kernel_rfl) (by kernel_rfl) (fun _ _ _ h => h) (Or.inl ⟨by rfl, ?_⟩) (by assumption) ?_
  · intro w' hSw; have hx := (HKF.out _ hSw).1; have z0 := mem_cell hx 0; have z1 := mem_cell hx 1; simp only [List.getElem?_toArray, List.getElem?_cons_zero, List.getElem?_cons_succ] at z0 z1; go_simp
  (try simp only [Act.put, List.getElem_toArray, List.getElem_cons_zero, List.setIfInBounds_toArray, List.set_cons_zero, List.set_cons_succ])
  refine wpAnyH_take (i := 1) (v := .int .i64 (i : Int)) rfl (by kernel_rfl) (by kernel_rfl) (by kernel_rfl) (fun _ _ _ h => h) (Or.inl ⟨by rfl, ?_⟩) (by assumption) ?_
  · intro w' hSw; go_simp
  (try simp only [Act.put, List.getElem_toArray, List.getElem_cons_zero, List.getElem_cons_succ, List.setIfInBounds_toArray, List.set_cons_zero, List.set_cons_succ])
  refine wpAnyH_take (i := 2) (v := .pointer (some ⟨w2.heap.size, 4, none⟩)) rfl (by kernel_rfl) (by kernel_rfl) (by kernel_rfl) (fun _ _ _ h => h) (Or.inl ⟨by rfl, ?_⟩) (by assumption) ?_
  · intro w' hSw; go_simp
  (try simp only [Act.put, List.getElem_toArray, List.getElem_cons_zero, List.getElem_cons_succ, List.setIfInBounds_toArray, List.set_cons_zero, List.set_cons_succ])
  refine wpAnyH_take (i := 3) (v := B.val a3 c3) rfl (by kernel_rfl) (by kernel_rfl) (by kernel_rfl) (fun _ _ _ h => h) (Or.inl ⟨by rfl, ?_⟩) (by assumption) ?_
  · intro w' hSw; have hx := (HKF.out _ hSw).2.1; have z4 := mem_cell hx 4; have z5 := mem_cell hx 5; have z6 := mem_cell hx 6; have z7 := mem_cell hx 7; simp only [Tsk.cells, bodyT, List.getElem?_toArray, List.getElem?_cons_zero, List.getElem?_cons_succ] at z4 z5 z6 z7; go_simp
  (try simp only [Act.put, List.getElem_toArray, List.getElem_cons_zero, List.getElem_cons_succ, List.setIfInBounds_toArray, List.set_cons_zero, List.set_cons_succ])
  refine wpAnyH_take (i := 4) (v := .func (.func 36) #[] #[.pointer (some ⟨w7.heap.size, 0, none⟩)]) rfl (by kernel_rfl) (by kernel_rfl) (by kernel_rfl) (fun _ _ _ h => h) (Or.inl ⟨by rfl, ?_⟩) (by assumption) ?_
  · intro w' hSw; go_simp
  (try simp only [Act.put, List.getElem_toArray, List.getElem_cons_zero, List.getElem_cons_succ, List.setIfInBounds_toArray, List.set_cons_zero, List.set_cons_succ])
  refine wpAnyH_ready (rs := [5]) (by kernel_rfl) (by simp) (AllReadyH.cons rfl (fun K hK => ?_) AllReadyH.nil)
  go_simp
  have hk0 := HKF.out v0 hHeld
  have HB0 := Lib.hid hHeld
  refine (where_any (isShrF (t.arrays.map (·.name))) 36 #[.pointer (some ⟨w7.heap.size, 0, none⟩)] (enters_of Tryd.func36 (by kernel_rfl) rfl) B v0 a3 c3 hk0.2.2.1.body (by have : B.size ≤ 400 := (tskOk_le HTB.out).2.2; omega) (by have : B.depth ≤ 16 := tskOk_depth HTB.out; omega) (fun x W' a c hb hr => by
    have hk := HKF.out W' (mem_then HB0.out hb)
    exact isShr_any (bodyT t B) ⟨qva, qvc, qaa, qac, a3, c3⟩ w2.heap.size w7.heap.size x W' a c hr hk.2.1 hk.2.2.1 (mem_keep HFX.out (mem_then HB0.out hb)))).mono ?_
  rintro e w8 ⟨a5, c5, rfl, hps, hB8⟩
  have HPS := Lib.hid hps
  have HB8 : Hid (Below F.heap.size F w8) := mem_then hHeld hB8
  have HP8 := Lib.hid (HPF.out.below HB8.out)
  clear hps hB8 hk0
  refine hK.out _ _ (HB8.out) (fun hHeld => ?_)
  clear hK K
  rename_i hOld
  clear hOld
  (try simp only [Act.put, List.getElem_toArray, List.getElem_cons_zero, List.getElem_cons_succ, List.setIfInBounds_toArray, List.set_cons_zero, List.set_cons_succ])
  refine wpAnyH_ready (rs := [6]) (by kernel_rfl) (by simp) (AllReadyH.cons rfl (fun K hK => ?_) AllReadyH.nil)
  go_simp
  have h9 := only_any (swapP p i (bodyT t B)) (i : Int) 12 (wantP (isShrF (t.arrays.map (·.name))) (B.items [])) w8 sa ta' a5 sc tc' c5 HP8.out (HKF.out w8 HB8.out).2.2.2.1 HPS.out
  refine h9.mono ?_
  clear h9
  rintro e w9 ⟨he, hB9⟩
  have hO : onlyP (swapP p i (bodyT t B)) (i : Int) 12 (wantP (isShrF (t.arrays.map (·.name))) (B.items [])) = true := by
    have h := HV.out
    rw [← HBD3.out] at h ⊢
    exact unlock_ok HT.out HOK.out hil h
  rw [hO] at he
  subst he
  have HB9 : Hid (Below F.heap.size F w9) := mem_then HB8.out hB9
  clear hO hB9
  refine hK.out _ _ (HB9.out) (fun hHeld => ?_)
  clear hK K
  rename_i hOld
  clear hOld
  (try simp only [Act.put, List.getElem_toArray, List.getElem_cons_zero, List.getElem_cons_succ, List.setIfInBounds_toArray, List.set_cons_zero, List.set_cons_succ])
  refine wpAnyH_ready (rs := [7]) (by kernel_rfl) (by simp) (AllReadyH.cons rfl (fun K hK => ?_) AllReadyH.nil)
  go_simp
  refine hK.out _ _ (HB9.out) (fun hHeld => ?_)
  clear hK K
  rename_i hOld
  clear hOld
  (try simp only [Act.put, List.getElem_toArray, List.getElem_cons_zero, List.getElem_cons_succ, List.setIfInBounds_toArray, List.set_cons_zero, List.set_cons_succ])
  refine wpAnyH_done (by kernel_rfl) ?_ _
  clear hHeld
  go_wp2_with fail
  go_ret
  exact ⟨rfl, (HKF.out w9 HB9.out).2.2.2.2⟩
end Go.Proofs.YtnegdmhmhdojbaaDoor
