/-
  The law CheckFaults: the faults of any program are those of the reference.
-/
import Derived.Test.YtnegdmhmhdojbaaDoorChkRefP
import Derived.Test.YtnegdmhmhdojbaaDoorChkFRow
import Derived.Deep.Cut
import Derived.Deep.CutRange
import Derived.Deep.DeepCutAuto
import Derived.Deep.CutBlock
import Derived.Deep.RegionHeld3
import Derived.Test.YtnegdmhmhdojbaaDoorSmalls
import Derived.Test.YtnegdmhmhdojbaaDoorChkAwake
namespace Go.Proofs.YtnegdmhmhdojbaaDoor
set_option linter.unusedVariables false
set_option linter.unusedSimpArgs false
open Go.RowKit
set_option maxRecDepth 100000
set_option maxHeartbeats 80000000

theorem RF.four {N g cap j : Nat} {w : World} {L : List FltP} (h : RF N w (.slice (some ⟨g, 0, none⟩) L.length cap) L) (hj : j < L.length) :
    w.cell? ⟨g, j * 4, none⟩ = some (.int .i64 L[j].task) ∧ w.cell? ⟨g, j * 4 + 1, none⟩ = some L[j].pv ∧ w.cell? ⟨g, j * 4 + 2, none⟩ = some (.int .i64 L[j].flt.err) ∧ w.cell? ⟨g, j * 4 + 3, none⟩ = some (.string L[j].flt.name) := by
  have key : ∀ (l : List FltP) (j : Nat) (hj : j < l.length) (d : Nat), d < 4 → (l.flatMap FltP.cells)[j * 4 + d]? = (l[j]).cells[d]? := by
    intro l
    induction l with
    | nil => intro j hj; exact absurd hj (Nat.not_lt_zero _)
    | cons f l ih =>
      intro j hj d hd
      rw [List.flatMap_cons]
      cases j with
      | zero => rw [List.getElem?_append_left (by rw [FltP.len]; omega)]; simp
      | succ j =>
        rw [List.getElem?_append_right (by rw [FltP.len]; omega), FltP.len, show (j + 1) * 4 + d - 4 = j * 4 + d by omega, ih j (by simpa using hj) d hd]
        simp
  exact ⟨own_get h.ro ((key L j hj 0 (by omega)).trans rfl), own_get h.ro ((key L j hj 1 (by omega)).trans rfl), own_get h.ro ((key L j hj 2 (by omega)).trans rfl), own_get h.ro ((key L j hj 3 (by omega)).trans rfl)⟩
theorem flat_both {M L : List FltP} (h : flat M = flat L) : L.length = M.length ∧ ∀ m (h1 : m < M.length) (h2 : m < L.length), M[m].task = L[m].task ∧ M[m].flt = L[m].flt := by
  unfold flat at h
  have l1 := congrArg List.length h
  simp only [List.length_map] at l1
  refine ⟨l1.symm, fun m hm hl => ?_⟩
  have e1 : (M.map (fun f => TFlt.mk f.task f.flt))[m]'(by simpa using hm) = (L.map (fun f => TFlt.mk f.task f.flt))[m]'(by simpa using hl) := by simp only [h]
  simpa using e1
theorem checkFaults_any (p : Prg) (w : World) (sa ta : Option Addr) (sc tc : Nat) (hp : PrgAt w p sa ta) (hg : SignsIn w) (hcp : p.shared.length ≤ sc) :
    Calls Tryd.prog 3 #[p.val sa sc ta tc] w fun e w' => e = .returned (.bool true) ∧ Below w.heap.size w w' := by
  have hsl := hp.1.1
  have htl := hp.2.1
  obtain ⟨W, hW⟩ : ∃ W : World, w.alloc (prgObj p sa sc ta tc) = W := ⟨_, rfl⟩
  have HBW : Hid (Below w.heap.size w W) := by show Below _ _ _; rw [← hW]; exact mem_alloc _ _
  have HBX : Hid (W.heap[w.heap.size]? = some (prgObj p sa sc ta tc)) := by show _ = _; rw [← hW]; exact mem_new _ _
  have HP := Lib.hid (hp.below HBW.out)
  have HG := Lib.hid (hg.below HBW.out)
  have HCP := Lib.hid hcp
  have HK : Hid (∀ w', Below W.heap.size W w' → Below w.heap.size w w' ∧ w'.cell? ⟨w.heap.size, 0, none⟩ = some (.slice sa p.shared.length sc) ∧ w'.cell? ⟨w.heap.size, 1, none⟩ = some (.slice ta p.tasks.length tc) ∧ PrgAt w' p sa ta ∧ SignsIn w') := fun w' h => by
    have hb := mem_keep HBX.out h
    exact ⟨HBW.out.trans (h.mono HBW.out.size), mem_cell hb 0, mem_cell hb 1, HP.out.below h, HG.out.below h⟩
  clear hp hg hcp
  go_enter Tryd.func3, Tryd.ntmps3
  go_wp2_with fail
  clear hW
  refine (awake15_any W HG.out).mono ?_
  rintro e w1 ⟨rfl, hB1⟩
  have HB1 := Lib.hid hB1
  obtain ⟨_, y0, y1, hp1, hg1⟩ := HK.out w1 hB1
  have HP1 := Lib.hid hp1
  have HG1 := Lib.hid hg1
  clear hp1 hg1 hB1
  go_wp2_with fail
  clear y0 y1
  refine (small15_any p w1 sa ta sc tc HP1.out).mono ?_
  rintro e w2 ⟨rfl, hB2⟩
  have HB2 : Hid (Below W.heap.size W w2) := mem_then HB1.out hB2
  obtain ⟨_, y0, y1, hp2, hg2⟩ := HK.out w2 HB2.out
  have HP2 := Lib.hid hp2
  have HG2 := Lib.hid hg2
  have HAW : Hid (∀ w', Below W.heap.size W w' → Calls Tryd.prog 12 #[] w' fun e w'' => e = .returned (.bool true) ∧ Below w.heap.size w w'') := fun w' h => by
    refine (awake15_any w' (HG.out.below h)).mono ?_
    rintro e w9 ⟨he, hB9⟩
    exact ⟨he, (HK.out w9 (mem_then h hB9)).1⟩
  clear hB2 hp2 hg2
  cases hs : smallP p with
  | false =>
    rw [show num01 false = 0 from rfl]
    go_wp2_with fail
    refine (HAW.out w2 HB2.out).mono ?_
    rintro e w3 ⟨rfl, hB3⟩
    have HB3 := Lib.hid hB3
    clear hB3
    go_wp2_with fail
    go_ret
    exact ⟨rfl, HB3.out⟩
  | true =>
  rw [show num01 true = 1 from rfl]
  clear hs
  go_wp2_with fail
  clear y0 y1
  refine (check_any p w2 sa ta sc tc HP2.out HG2.out).mono ?_
  rintro e w3 ⟨v, L, rfl, hL, hF, hlen, hb3⟩
  obtain ⟨va, vc, rfl⟩ := own_val hL.ro
  have HB3 : Hid (Below W.heap.size W w3) := mem_then HB2.out hb3
  have HL : Hid (FltsAt W.heap.size w3 (.slice va L.length vc) L) := hL.down HB2.out.size
  have HF := Lib.hid hF
  have HLEN := Lib.hid hlen
  obtain ⟨_, y0, y1, hp3, hg3⟩ := HK.out w3 HB3.out
  have HP3 := Lib.hid hp3
  have HG3 := Lib.hid hg3
  clear hL hF hlen hb3 hp3 hg3
  go_wp2_with fail
  clear y0 y1
  refine (valid_any p w3 sa ta sc tc HP3.out HG3.out).mono ?_
  rintro e w4 ⟨rfl, hb4⟩
  have HB4 : Hid (Below W.heap.size W w4) := mem_then HB3.out hb4
  have HL4 : Hid (FltsAt W.heap.size w4 (.slice va L.length vc) L) := HL.out.keep hb4
  obtain ⟨_, y0, y1, hp4, hg4⟩ := HK.out w4 HB4.out
  have HP4 := Lib.hid hp4
  have HG4 := Lib.hid hg4
  clear hb4 hp4 hg4
  cases hv : prgOk p with
  | false =>
    have HNO : Hid (okP p = false) := by show _ = _; unfold okP; rw [hv]; rfl
    have hl0 : L.length = 0 := by
      have h := congrArg List.length HF.out
      unfold checkE at h
      rw [hv, flat_len] at h
      simpa using h
    rw [hl0]
    clear hv hl0
    go_wp2_with fail
    clear y0 y1
    refine (ok15_any p w4 sa ta sc tc HP4.out HG4.out).mono ?_
    rintro e w5 ⟨rfl, hb5⟩
    rw [HNO.out]
    have HB5 := Lib.hid (HK.out _ (mem_then HB4.out hb5)).1
    clear hb5
    go_wp2_with fail
    go_ret
    exact ⟨rfl, HB5.out⟩
  | true =>
  have HV := Lib.hid hv
  clear hv
  have h8 := refcheck_any p w4 sa ta sc tc HP4.out HV.out HCP.out
  have H8 := Lib.hid h8
  clear h8
  go_wp2_with fail
  clear y0 y1
  refine H8.out.mono ?_
  rintro e w5 ⟨v2, M, rfl, hM, hF2, hlen2, hb5⟩
  obtain ⟨ma, mc, rfl⟩ := own_val hM.ro
  have HMM : Hid (L.length = M.length ∧ ∀ m (h1 : m < M.length) (h2 : m < L.length), M[m].task = L[m].task ∧ M[m].flt = L[m].flt) := flat_both (by
    rw [hF2, refF_eq, HF.out]; unfold checkE; rw [HV.out]; rfl)
  have HB5 : Hid (Below W.heap.size W w5) := mem_then HB4.out hb5
  have HL5 : Hid (FltsAt W.heap.size w5 (.slice va L.length vc) L) := HL4.out.keep hb5
  have HM5 : Hid (RF W.heap.size w5 (.slice ma M.length mc) M) := hM.base HB4.out.size
  obtain ⟨n2, hn2⟩ : ∃ n2, n2 = M.length := ⟨_, rfl⟩
  have HN2 := Lib.hid hn2
  have hn2l : n2 ≤ 4000 := by omega
  obtain ⟨_, y0, y1, hp5, hg5⟩ := HK.out w5 HB5.out
  have HP5 := Lib.hid hp5
  have HG5 := Lib.hid hg5
  have HOKE : Hid (okP p = ((n2 : Int) == 0)) := by
    show _ = _
    unfold okP
    have h1 := HMM.out.1
    rw [HV.out, ← HF.out, Bool.true_and]
    by_cases h0 : n2 = 0
    · obtain rfl : L = [] := List.length_eq_zero_iff.1 (by omega)
      rw [h0]; rfl
    · have hne : flat L ≠ [] := fun h => by
        have h := congrArg List.length h
        rw [flat_len] at h
        have h : L.length = 0 := h
        omega
      have e1 : ((n2 : Int) == 0) = false := by rw [beq_eq_false_iff_ne]; omega
      rw [e1]
      cases hfl : flat L with
      | nil => exact absurd hfl hne
      | cons a l => rfl
  rw [HMM.out.1, ← hn2]
  have hnn : ((n2 : Int) != (n2 : Int)) = false := by simp
  clear hM hF2 hlen2 hb5 hn2 hp5 hg5
  go_wp2_with fail
  clear y0 y1
  refine (ok15_any p w5 sa ta sc tc HP5.out HG5.out).mono ?_
  rintro e w6 ⟨rfl, hb6⟩
  rw [HOKE.out]
  obtain ⟨zb, hzb⟩ : ∃ b, ((n2 : Int) == 0) = b := ⟨_, rfl⟩
  have hzz : (zb != zb) = false := by cases zb <;> rfl
  have HB6 : Hid (Below W.heap.size W w6) := mem_then HB5.out hb6
  have HL6 : Hid (FltsAt W.heap.size w6 (.slice va L.length vc) L) := HL5.out.keep hb6
  have HM6 : Hid (RF W.heap.size w6 (.slice ma M.length mc) M) := HM5.out.keep hb6
  have HEND : Hid (Below w.heap.size w w6) := (HK.out _ HB6.out).1
  rw [hzb]
  clear hb6
  go_wp2_with fail
  clear hnn hzz hzb
  go_loopw [5, 45] (fun _ iv wr => ∃ m : Nat, m ≤ n2 ∧ iv = .int .i64 (m : Int) ∧ Below w6.heap.size w6 wr) (fun _ iv _ => n2 - (intOf iv).toNat)
  case atStart => exact ⟨0, Nat.zero_le _, rfl, Below.refl _ _⟩
  case round =>
    obtain ⟨m, hm, rfl, hB⟩ := hrel
    have HB := Lib.hid hB
    have hm0 : (0 : Int) ≤ (m : Int) := by omega
    clear hB
    by_cases hlt : m < n2
    · have hlt2 : (m : Int) < (n2 : Int) := by omega
      have hltM : m < M.length := by have := HN2.out; omega
      have hltL : m < L.length := by have h1 := HMM.out.1; omega
      have HL3 : Hid (FltsAt W.heap.size wr (.slice va L.length vc) L) := HL6.out.keep HB.out
      have HM3 : Hid (RF W.heap.size wr (.slice ma M.length mc) M) := HM6.out.keep HB.out
      obtain ⟨g2, rfl, _, _⟩ := own_at HL3.out.ro (by omega)
      obtain ⟨mb, rfl, _, _⟩ := own_at HM3.out.ro (by omega)
      obtain ⟨r0, r1, r2, r3⟩ := HL3.out.four hltL
      obtain ⟨q0, q1, q2, q3⟩ := HM3.out.four hltM
      have HPA := Lib.hid (HL3.out.ri L[m] (List.getElem_mem hltL))
      have HQA := Lib.hid (HM3.out.ri M[m] (List.getElem_mem hltM))
      have HFE : Hid (M[m].task = L[m].task ∧ M[m].flt = L[m].flt) := HMM.out.2 m hltM hltL
      obtain ⟨f, hf⟩ : ∃ f, L[m] = f := ⟨_, rfl⟩
      obtain ⟨g, hg⟩ : ∃ g, M[m] = g := ⟨_, rfl⟩
      rw [hf] at r0 r1 r2 r3 HPA HFE
      rw [hg] at q0 q1 q2 q3 HQA HFE
      clear hf hg
      obtain ⟨ft, ⟨fp, fe, fn⟩, fv⟩ := f
      obtain ⟨gt, gf, gv⟩ := g
      obtain ⟨e1, e2⟩ := HFE.out
      obtain rfl : gt = ft := e1
      obtain rfl : gf = ⟨fp, fe, fn⟩ := e2
      obtain ⟨fa, fc, rfl⟩ : ∃ fa fc, fv = .slice fa fp.length fc := own_val HPA.out
      obtain ⟨qa, qc, rfl⟩ : ∃ fa fc, gv = .slice fa fp.length fc := own_val HQA.out
      have HFR : Hid (IRow wr fa fp) := PathV.row HPA.out
      have HQR : Hid (IRow wr qa fp) := PathV.row HQA.out
      have hpz : fp.length ≤ 9223372036854775807 := HFR.out.1
      obtain ⟨D, hD⟩ : ∃ D : World, wr.alloc (.cells #[.int .i64 gt, .slice qa fp.length qc, .int .i64 fe, .string fn] 35) = D := ⟨_, rfl⟩
      have hBD : Below wr.heap.size wr D := by rw [← hD]; exact mem_alloc _ _
      have hX : D.heap[wr.heap.size]? = some (.cells #[.int .i64 gt, .slice qa fp.length qc, .int .i64 fe, .string fn] 35) := by rw [← hD]; exact mem_new _ _
      have HBD : Hid (Below w6.heap.size w6 D) := HB.out.trans (hBD.mono HB.out.size)
      have HS1 : Hid (∀ w', Below D.heap.size D w' → w'.cell? ⟨wr.heap.size, 0, none⟩ = some (.int .i64 gt) ∧ w'.cell? ⟨wr.heap.size, 1, none⟩ = some (.slice qa fp.length qc) ∧ w'.cell? ⟨wr.heap.size, 2, none⟩ = some (.int .i64 fe) ∧ w'.cell? ⟨wr.heap.size, 3, none⟩ = some (.string fn) ∧ w'.cell? ⟨g2, m * 4, none⟩ = some (.int .i64 gt) ∧ w'.cell? ⟨g2, m * 4 + 1, none⟩ = some (.slice fa fp.length fc) ∧ w'.cell? ⟨g2, m * 4 + 2, none⟩ = some (.int .i64 fe) ∧ w'.cell? ⟨g2, m * 4 + 3, none⟩ = some (.string fn)) := fun w' h =>
        ⟨(mem_cell (mem_keep hX h) 0).trans rfl, (mem_cell (mem_keep hX h) 1).trans rfl, (mem_cell (mem_keep hX h) 2).trans rfl, (mem_cell (mem_keep hX h) 3).trans rfl, cell_below h (cell_below hBD r0), cell_below h (cell_below hBD r1), cell_below h (cell_below hBD r2), cell_below h (cell_below hBD r3)⟩
      have HFRD := Lib.hid (HFR.out.below hBD)
      have HQRD := Lib.hid (HQR.out.below hBD)
      have hne1 : (gt != gt) = false := by simp
      have hne2 : (fe != fe) = false := by simp
      have hne3 : (fn.toList != fn.toList) = false := by simp
      clear hX hBD HPA HQA HFE HFR HQR r0 r1 r2 r3
      go_wp2_with fail
      clear hD q0 q1 q2 q3
      refine wp_region_held_drew (S := fun w' => Below D.heap.size D w') (by kernel_rfl) ((Below.refl _ _).drew) (fun hHeld => ?_)
      generalize hwd : World.drew _ = v0 at hHeld ⊢
      clear hwd
      refine wpAnyH_take (i := 0) (v := .slice (some ⟨g2, 0, none⟩) n2 vc) rfl (by kernel_rfl) (by kernel_rfl) (by kernel_rfl) (fun _ _ _ h => h) (Or.inl ⟨by rfl, ?_⟩) (by assumption) ?_
      · intro w' hSw; go_simp
      (try simp only [Act.put, List.getElem_toArray, List.getElem_cons_zero, List.setIfInBounds_toArray, List.set_cons_zero, List.set_cons_succ])
      refine wpAnyH_take (i := 1) (v := .int .i64 (m : Int)) rfl (by kernel_rfl) (by kernel_rfl) (by kernel_rfl) (fun _ _ _ h => h) (Or.inl ⟨by rfl, ?_⟩) (by assumption) ?_
      · intro w' hSw; go_simp
      (try simp only [Act.put, List.getElem_toArray, List.getElem_cons_zero, List.getElem_cons_succ, List.setIfInBounds_toArray, List.set_cons_zero, List.set_cons_succ])
      refine wpAnyH_take (i := 2) (v := .pointer (some ⟨g2, m * 4, none⟩)) rfl (by kernel_rfl) (by kernel_rfl) (by kernel_rfl) (fun _ _ _ h => h) (Or.inl ⟨by rfl, ?_⟩) (by assumption) ?_
      · intro w' hSw; go_simp
      (try simp only [Act.put, List.getElem_toArray, List.getElem_cons_zero, List.getElem_cons_succ, List.setIfInBounds_toArray, List.set_cons_zero, List.set_cons_succ])
      refine wpAnyH_take (i := 3) (v := .pointer (some ⟨g2, m * 4, none⟩)) rfl (by kernel_rfl) (by kernel_rfl) (by kernel_rfl) (fun _ _ _ h => h) (Or.inl ⟨by rfl, ?_⟩) (by assumption) ?_
      · intro w' hSw; go_simp
      (try simp only [Act.put, List.getElem_toArray, List.getElem_cons_zero, List.getElem_cons_succ, List.setIfInBounds_toArray, List.set_cons_zero, List.set_cons_succ])
      refine wpAnyH_take (i := 4) (v := .int .i64 gt) rfl (by kernel_rfl) (by kernel_rfl) (by kernel_rfl) (fun _ _ _ h => h) (Or.inl ⟨by rfl, ?_⟩) (by assumption) ?_
      · intro w' hSw; obtain ⟨z1, z2, z3, z4, z5, z6, z7, z8⟩ := HS1.out _ hSw; go_simp
      (try simp only [Act.put, List.getElem_toArray, List.getElem_cons_zero, List.getElem_cons_succ, List.setIfInBounds_toArray, List.set_cons_zero, List.set_cons_succ])
      refine wpAnyH_take (i := 5) (v := .pointer (some ⟨wr.heap.size, 0, none⟩)) rfl (by kernel_rfl) (by kernel_rfl) (by kernel_rfl) (fun _ _ _ h => h) (Or.inl ⟨by rfl, ?_⟩) (by assumption) ?_
      · intro w' hSw; go_simp
      (try simp only [Act.put, List.getElem_toArray, List.getElem_cons_zero, List.getElem_cons_succ, List.setIfInBounds_toArray, List.set_cons_zero, List.set_cons_succ])
      refine wpAnyH_take (i := 6) (v := .int .i64 gt) rfl (by kernel_rfl) (by kernel_rfl) (by kernel_rfl) (fun _ _ _ h => h) (Or.inl ⟨by rfl, ?_⟩) (by assumption) ?_
      · intro w' hSw; obtain ⟨z1, z2, z3, z4, z5, z6, z7, z8⟩ := HS1.out _ hSw; go_simp
      (try simp only [Act.put, List.getElem_toArray, List.getElem_cons_zero, List.getElem_cons_succ, List.setIfInBounds_toArray, List.set_cons_zero, List.set_cons_succ])
      refine wpAnyH_take (i := 7) (v := .bool false) rfl (by kernel_rfl) (by kernel_rfl) (by kernel_rfl) (fun _ _ _ h => h) (Or.inl ⟨by rfl, ?_⟩) (by assumption) ?_
      · intro w' hSw; go_simp
      (try simp only [Act.put, List.getElem_toArray, List.getElem_cons_zero, List.getElem_cons_succ, List.setIfInBounds_toArray, List.set_cons_zero, List.set_cons_succ])
      refine wpAnyH_take (i := 8) (v := .bool false) rfl (by kernel_rfl) (by kernel_rfl) (by kernel_rfl) (fun _ _ _ h => h) (Or.inl ⟨by rfl, ?_⟩) (by assumption) ?_
      · intro w' hSw; go_simp
      (try simp only [Act.put, List.getElem_toArray, List.getElem_cons_zero, List.getElem_cons_succ, List.setIfInBounds_toArray, List.set_cons_zero, List.set_cons_succ])
      refine wpAnyH_take (i := 9) (v := .slice (some ⟨g2, 0, none⟩) n2 vc) rfl (by kernel_rfl) (by kernel_rfl) (by kernel_rfl) (fun _ _ _ h => h) (Or.inl ⟨by rfl, ?_⟩) (by assumption) ?_
      · intro w' hSw; go_simp
      (try simp only [Act.put, List.getElem_toArray, List.getElem_cons_zero, List.getElem_cons_succ, List.setIfInBounds_toArray, List.set_cons_zero, List.set_cons_succ])
      refine wpAnyH_take (i := 10) (v := .int .i64 (m : Int)) rfl (by kernel_rfl) (by kernel_rfl) (by kernel_rfl) (fun _ _ _ h => h) (Or.inl ⟨by rfl, ?_⟩) (by assumption) ?_
      · intro w' hSw; go_simp
      (try simp only [Act.put, List.getElem_toArray, List.getElem_cons_zero, List.getElem_cons_succ, List.setIfInBounds_toArray, List.set_cons_zero, List.set_cons_succ])
      refine wpAnyH_take (i := 11) (v := .pointer (some ⟨g2, m * 4, none⟩)) rfl (by kernel_rfl) (by kernel_rfl) (by kernel_rfl) (fun _ _ _ h => h) (Or.inl ⟨by rfl, ?_⟩) (by assumption) ?_
      · intro w' hSw; go_simp
      (try simp only [Act.put, List.getElem_toArray, List.getElem_cons_zero, List.getElem_cons_succ, List.setIfInBounds_toArray, List.set_cons_zero, List.set_cons_succ])
      refine wpAnyH_take (i := 12) (v := .pointer (some ⟨g2, m * 4 + 2, none⟩)) rfl (by kernel_rfl) (by kernel_rfl) (by kernel_rfl) (fun _ _ _ h => h) (Or.inl ⟨by rfl, ?_⟩) (by assumption) ?_
      · intro w' hSw; go_simp
      (try simp only [Act.put, List.getElem_toArray, List.getElem_cons_zero, List.getElem_cons_succ, List.setIfInBounds_toArray, List.set_cons_zero, List.set_cons_succ])
      refine wpAnyH_take (i := 13) (v := .int .i64 fe) rfl (by kernel_rfl) (by kernel_rfl) (by kernel_rfl) (fun _ _ _ h => h) (Or.inl ⟨by rfl, ?_⟩) (by assumption) ?_
      · intro w' hSw; obtain ⟨z1, z2, z3, z4, z5, z6, z7, z8⟩ := HS1.out _ hSw; go_simp
      (try simp only [Act.put, List.getElem_toArray, List.getElem_cons_zero, List.getElem_cons_succ, List.setIfInBounds_toArray, List.set_cons_zero, List.set_cons_succ])
      refine wpAnyH_take (i := 14) (v := .pointer (some ⟨wr.heap.size, 2, none⟩)) rfl (by kernel_rfl) (by kernel_rfl) (by kernel_rfl) (fun _ _ _ h => h) (Or.inl ⟨by rfl, ?_⟩) (by assumption) ?_
      · intro w' hSw; go_simp
      (try simp only [Act.put, List.getElem_toArray, List.getElem_cons_zero, List.getElem_cons_succ, List.setIfInBounds_toArray, List.set_cons_zero, List.set_cons_succ])
      refine wpAnyH_take (i := 15) (v := .int .i64 fe) rfl (by kernel_rfl) (by kernel_rfl) (by kernel_rfl) (fun _ _ _ h => h) (Or.inl ⟨by rfl, ?_⟩) (by assumption) ?_
      · intro w' hSw; obtain ⟨z1, z2, z3, z4, z5, z6, z7, z8⟩ := HS1.out _ hSw; go_simp
      (try simp only [Act.put, List.getElem_toArray, List.getElem_cons_zero, List.getElem_cons_succ, List.setIfInBounds_toArray, List.set_cons_zero, List.set_cons_succ])
      refine wpAnyH_take (i := 16) (v := .bool false) rfl (by kernel_rfl) (by kernel_rfl) (by kernel_rfl) (fun _ _ _ h => h) (Or.inl ⟨by rfl, ?_⟩) (by assumption) ?_
      · intro w' hSw; go_simp
      (try simp only [Act.put, List.getElem_toArray, List.getElem_cons_zero, List.getElem_cons_succ, List.setIfInBounds_toArray, List.set_cons_zero, List.set_cons_succ])
      refine wpAnyH_take (i := 17) (v := .bool false) rfl (by kernel_rfl) (by kernel_rfl) (by kernel_rfl) (fun _ _ _ h => h) (Or.inl ⟨by rfl, ?_⟩) (by assumption) ?_
      · intro w' hSw; go_simp
      (try simp only [Act.put, List.getElem_toArray, List.getElem_cons_zero, List.getElem_cons_succ, List.setIfInBounds_toArray, List.set_cons_zero, List.set_cons_succ])
      refine wpAnyH_take (i := 18) (v := .bool false) rfl (by kernel_rfl) (by kernel_rfl) (by kernel_rfl) (fun _ _ _ h => h) (Or.inl ⟨by rfl, ?_⟩) (by assumption) ?_
      · intro w' hSw; go_simp
      (try simp only [Act.put, List.getElem_toArray, List.getElem_cons_zero, List.getElem_cons_succ, List.setIfInBounds_toArray, List.set_cons_zero, List.set_cons_succ])
      refine wpAnyH_take (i := 19) (v := .slice (some ⟨g2, 0, none⟩) n2 vc) rfl (by kernel_rfl) (by kernel_rfl) (by kernel_rfl) (fun _ _ _ h => h) (Or.inl ⟨by rfl, ?_⟩) (by assumption) ?_
      · intro w' hSw; go_simp
      (try simp only [Act.put, List.getElem_toArray, List.getElem_cons_zero, List.getElem_cons_succ, List.setIfInBounds_toArray, List.set_cons_zero, List.set_cons_succ])
      refine wpAnyH_take (i := 20) (v := .int .i64 (m : Int)) rfl (by kernel_rfl) (by kernel_rfl) (by kernel_rfl) (fun _ _ _ h => h) (Or.inl ⟨by rfl, ?_⟩) (by assumption) ?_
      · intro w' hSw; go_simp
      (try simp only [Act.put, List.getElem_toArray, List.getElem_cons_zero, List.getElem_cons_succ, List.setIfInBounds_toArray, List.set_cons_zero, List.set_cons_succ])
      refine wpAnyH_take (i := 21) (v := .pointer (some ⟨g2, m * 4, none⟩)) rfl (by kernel_rfl) (by kernel_rfl) (by kernel_rfl) (fun _ _ _ h => h) (Or.inl ⟨by rfl, ?_⟩) (by assumption) ?_
      · intro w' hSw; go_simp
      (try simp only [Act.put, List.getElem_toArray, List.getElem_cons_zero, List.getElem_cons_succ, List.setIfInBounds_toArray, List.set_cons_zero, List.set_cons_succ])
      refine wpAnyH_take (i := 22) (v := .pointer (some ⟨g2, m * 4 + 3, none⟩)) rfl (by kernel_rfl) (by kernel_rfl) (by kernel_rfl) (fun _ _ _ h => h) (Or.inl ⟨by rfl, ?_⟩) (by assumption) ?_
      · intro w' hSw; go_simp
      (try simp only [Act.put, List.getElem_toArray, List.getElem_cons_zero, List.getElem_cons_succ, List.setIfInBounds_toArray, List.set_cons_zero, List.set_cons_succ])
      refine wpAnyH_take (i := 23) (v := .string fn) rfl (by kernel_rfl) (by kernel_rfl) (by kernel_rfl) (fun _ _ _ h => h) (Or.inl ⟨by rfl, ?_⟩) (by assumption) ?_
      · intro w' hSw; obtain ⟨z1, z2, z3, z4, z5, z6, z7, z8⟩ := HS1.out _ hSw; go_simp
      (try simp only [Act.put, List.getElem_toArray, List.getElem_cons_zero, List.getElem_cons_succ, List.setIfInBounds_toArray, List.set_cons_zero, List.set_cons_succ])
      refine wpAnyH_take (i := 24) (v := .pointer (some ⟨wr.heap.size, 3, none⟩)) rfl (by kernel_rfl) (by kernel_rfl) (by kernel_rfl) (fun _ _ _ h => h) (Or.inl ⟨by rfl, ?_⟩) (by assumption) ?_
      · intro w' hSw; go_simp
      (try simp only [Act.put, List.getElem_toArray, List.getElem_cons_zero, List.getElem_cons_succ, List.setIfInBounds_toArray, List.set_cons_zero, List.set_cons_succ])
      refine wpAnyH_take (i := 25) (v := .string fn) rfl (by kernel_rfl) (by kernel_rfl) (by kernel_rfl) (fun _ _ _ h => h) (Or.inl ⟨by rfl, ?_⟩) (by assumption) ?_
      · intro w' hSw; obtain ⟨z1, z2, z3, z4, z5, z6, z7, z8⟩ := HS1.out _ hSw; go_simp
      (try simp only [Act.put, List.getElem_toArray, List.getElem_cons_zero, List.getElem_cons_succ, List.setIfInBounds_toArray, List.set_cons_zero, List.set_cons_succ])
      refine wpAnyH_take (i := 26) (v := .bool false) rfl (by kernel_rfl) (by kernel_rfl) (by kernel_rfl) (fun _ _ _ h => h) (Or.inl ⟨by rfl, ?_⟩) (by assumption) ?_
      · intro w' hSw; go_simp
      (try simp only [Act.put, List.getElem_toArray, List.getElem_cons_zero, List.getElem_cons_succ, List.setIfInBounds_toArray, List.set_cons_zero, List.set_cons_succ])
      refine wpAnyH_take (i := 27) (v := .bool false) rfl (by kernel_rfl) (by kernel_rfl) (by kernel_rfl) (fun _ _ _ h => h) (Or.inl ⟨by rfl, ?_⟩) (by assumption) ?_
      · intro w' hSw; go_simp
      (try simp only [Act.put, List.getElem_toArray, List.getElem_cons_zero, List.getElem_cons_succ, List.setIfInBounds_toArray, List.set_cons_zero, List.set_cons_succ])
      refine wpAnyH_take (i := 28) (v := .bool false) rfl (by kernel_rfl) (by kernel_rfl) (by kernel_rfl) (fun _ _ _ h => h) (Or.inl ⟨by rfl, ?_⟩) (by assumption) ?_
      · intro w' hSw; go_simp
      (try simp only [Act.put, List.getElem_toArray, List.getElem_cons_zero, List.getElem_cons_succ, List.setIfInBounds_toArray, List.set_cons_zero, List.set_cons_succ])
      refine wpAnyH_take (i := 29) (v := .slice (some ⟨g2, 0, none⟩) n2 vc) rfl (by kernel_rfl) (by kernel_rfl) (by kernel_rfl) (fun _ _ _ h => h) (Or.inl ⟨by rfl, ?_⟩) (by assumption) ?_
      · intro w' hSw; go_simp
      (try simp only [Act.put, List.getElem_toArray, List.getElem_cons_zero, List.getElem_cons_succ, List.setIfInBounds_toArray, List.set_cons_zero, List.set_cons_succ])
      refine wpAnyH_take (i := 30) (v := .int .i64 (m : Int)) rfl (by kernel_rfl) (by kernel_rfl) (by kernel_rfl) (fun _ _ _ h => h) (Or.inl ⟨by rfl, ?_⟩) (by assumption) ?_
      · intro w' hSw; go_simp
      (try simp only [Act.put, List.getElem_toArray, List.getElem_cons_zero, List.getElem_cons_succ, List.setIfInBounds_toArray, List.set_cons_zero, List.set_cons_succ])
      refine wpAnyH_take (i := 31) (v := .pointer (some ⟨g2, m * 4, none⟩)) rfl (by kernel_rfl) (by kernel_rfl) (by kernel_rfl) (fun _ _ _ h => h) (Or.inl ⟨by rfl, ?_⟩) (by assumption) ?_
      · intro w' hSw; go_simp
      (try simp only [Act.put, List.getElem_toArray, List.getElem_cons_zero, List.getElem_cons_succ, List.setIfInBounds_toArray, List.set_cons_zero, List.set_cons_succ])
      refine wpAnyH_take (i := 32) (v := .pointer (some ⟨g2, m * 4 + 1, none⟩)) rfl (by kernel_rfl) (by kernel_rfl) (by kernel_rfl) (fun _ _ _ h => h) (Or.inl ⟨by rfl, ?_⟩) (by assumption) ?_
      · intro w' hSw; go_simp
      (try simp only [Act.put, List.getElem_toArray, List.getElem_cons_zero, List.getElem_cons_succ, List.setIfInBounds_toArray, List.set_cons_zero, List.set_cons_succ])
      refine wpAnyH_take (i := 33) (v := .slice fa fp.length fc) rfl (by kernel_rfl) (by kernel_rfl) (by kernel_rfl) (fun _ _ _ h => h) (Or.inl ⟨by rfl, ?_⟩) (by assumption) ?_
      · intro w' hSw; obtain ⟨z1, z2, z3, z4, z5, z6, z7, z8⟩ := HS1.out _ hSw; go_simp
      (try simp only [Act.put, List.getElem_toArray, List.getElem_cons_zero, List.getElem_cons_succ, List.setIfInBounds_toArray, List.set_cons_zero, List.set_cons_succ])
      refine wpAnyH_take (i := 34) (v := .pointer (some ⟨wr.heap.size, 1, none⟩)) rfl (by kernel_rfl) (by kernel_rfl) (by kernel_rfl) (fun _ _ _ h => h) (Or.inl ⟨by rfl, ?_⟩) (by assumption) ?_
      · intro w' hSw; go_simp
      (try simp only [Act.put, List.getElem_toArray, List.getElem_cons_zero, List.getElem_cons_succ, List.setIfInBounds_toArray, List.set_cons_zero, List.set_cons_succ])
      refine wpAnyH_take (i := 35) (v := .slice qa fp.length qc) rfl (by kernel_rfl) (by kernel_rfl) (by kernel_rfl) (fun _ _ _ h => h) (Or.inl ⟨by rfl, ?_⟩) (by assumption) ?_
      · intro w' hSw; obtain ⟨z1, z2, z3, z4, z5, z6, z7, z8⟩ := HS1.out _ hSw; go_simp
      (try simp only [Act.put, List.getElem_toArray, List.getElem_cons_zero, List.getElem_cons_succ, List.setIfInBounds_toArray, List.set_cons_zero, List.set_cons_succ])
      refine wpAnyH_ready (rs := [36]) (by kernel_rfl) (by simp) (AllReadyH.cons rfl (fun K hK => ?_) AllReadyH.nil)
      go_simp
      refine (ieq_any fp fp _ fa qa fc qc (HFRD.out.below hHeld) (HQRD.out.below hHeld)).mono ?_
      rintro e w11 ⟨rfl, hb11⟩
      have HB11 := Lib.hid (mem_then hHeld hb11)
      rw [show decide (fp = fp) = true from decide_eq_true rfl]
      clear hb11
      refine hK.out _ _ (HB11.out) (fun hHeld => ?_)
      clear hK K
      rename_i hOld
      clear hOld
      (try simp only [Act.put, List.getElem_toArray, List.getElem_cons_zero, List.getElem_cons_succ, List.setIfInBounds_toArray, List.set_cons_zero, List.set_cons_succ])
      refine wpAnyH_take (i := 37) (v := .bool false) rfl (by kernel_rfl) (by kernel_rfl) (by kernel_rfl) (fun _ _ _ h => h) (Or.inl ⟨by rfl, ?_⟩) (by assumption) ?_
      · intro w' hSw; go_simp
      (try simp only [Act.put, List.getElem_toArray, List.getElem_cons_zero, List.getElem_cons_succ, List.setIfInBounds_toArray, List.set_cons_zero, List.set_cons_succ])
      refine wpAnyH_take (i := 38) (v := .bool false) rfl (by kernel_rfl) (by kernel_rfl) (by kernel_rfl) (fun _ _ _ h => h) (Or.inl ⟨by rfl, ?_⟩) (by assumption) ?_
      · intro w' hSw; go_simp
      (try simp only [Act.put, List.getElem_toArray, List.getElem_cons_zero, List.getElem_cons_succ, List.setIfInBounds_toArray, List.set_cons_zero, List.set_cons_succ])
      refine wpAnyH_done (by kernel_rfl) ?_ _
      clear hHeld
      go_wp2_with fail
      go_roundw
      case rel => exact ⟨m + 1, by omega, by go_num, HBD.out.trans (HB11.out.mono HBD.out.size)⟩
      case measure => simp [intOf]; omega
    · obtain rfl : m = n2 := by omega
      go_wp2_with fail
      go_ret
      exact ⟨rfl, HEND.out.trans (HB.out.mono HEND.out.size)⟩
end Go.Proofs.YtnegdmhmhdojbaaDoor
