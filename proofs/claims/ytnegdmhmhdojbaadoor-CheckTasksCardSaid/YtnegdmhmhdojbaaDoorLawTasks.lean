/-
  The law CheckTasks: a task has the same faults when all other tasks are removed.
-/
import Derived.Test.YtnegdmhmhdojbaaDoorChkOfs
import Derived.Deep.Cut
import Derived.Deep.CutRange
import Derived.Deep.DeepCutAuto
import Derived.Deep.CutBlock
import Derived.Deep.RegionHeld3
import Derived.Test.YtnegdmhmhdojbaaDoorChkTasksP
import Derived.Test.YtnegdmhmhdojbaaDoorChkSmall
import Derived.Test.YtnegdmhmhdojbaaDoorChkAwake
namespace Go.Proofs.YtnegdmhmhdojbaaDoor
set_option linter.unusedVariables false
set_option linter.unusedSimpArgs false
open Go.RowKit
set_option maxRecDepth 100000
set_option maxHeartbeats 8000000

theorem name_beq (a b : ByteArray) : (a.toList == b.toList) = decide (a = b) := by
  rw [Bool.eq_iff_iff]
  simp only [beq_iff_eq, decide_eq_true_eq]
  constructor
  · intro h
    rw [ByteArray.toList_eq, ByteArray.toList_eq] at h
    cases a; cases b
    simp only at h
    rw [Array.toList_inj.1 h]
  · rintro rfl; rfl
theorem flat_same {M L : List FltP} {X : List Flt} {a b : Int} (h1 : flat M = X.map (TFlt.mk a)) (h2 : flat L = X.map (TFlt.mk b)) : L.length = M.length ∧ ∀ m (h1 : m < M.length) (h2 : m < L.length), M[m].flt = L[m].flt := by
  unfold flat at h1 h2
  have l1 := congrArg List.length h1
  have l2 := congrArg List.length h2
  simp only [List.length_map] at l1 l2
  refine ⟨by omega, fun m hm hl => ?_⟩
  have e1 : (M.map (fun f => TFlt.mk f.task f.flt))[m]'(by simpa using hm) = (X.map (TFlt.mk a))[m]'(by simp; omega) := by simp only [h1]
  have e2 : (L.map (fun f => TFlt.mk f.task f.flt))[m]'(by simpa using hl) = (X.map (TFlt.mk b))[m]'(by simp; omega) := by simp only [h2]
  simp only [List.getElem_map, TFlt.mk.injEq] at e1 e2
  rw [e1.2, e2.2]
/-- what Check leaves for one task alone -/
def CkOut (p : Prg) (j N : Nat) (w : World) (v : Value) : Prop := ∃ L, FltsAt N w v L ∧ flat L = checkE (aloneP p j) ∧ L.length ≤ 4000
/-- and the filter behind it -/
def OfOut (p : Prg) (j N : Nat) (w : World) (v : Value) : Prop := ∃ L, FltsAt N w v L ∧ flat L = mineF (aloneP p j) 0 ∧ L.length ≤ 4000
theorem ck_any (p : Prg) (j : Nat) (W w : World) (sa : Option Addr) (tb tf sc tc : Nat) (hp : PrgAt w p sa (some ⟨tb, tf, none⟩)) (hg : SignsIn w) (hj : j < p.tasks.length) (hB : Below W.heap.size W w) :
    Calls Tryd.prog 14 #[.agg #[.slice sa p.shared.length sc, .slice (some ⟨tb, tf + j * 8, none⟩) 1 (tc - j)]] w fun e w' => ∃ v, e = .returned v ∧ CkOut p j W.heap.size w' v ∧ Below W.heap.size W w' ∧ Below w.heap.size w w' := by
  have ha : PrgAt w (aloneP p j) sa (some ⟨tb, tf + j * 8, none⟩) := ⟨hp.1, by show 1 ≤ _; omega, fun i hi => by
    have hi : i < 1 := hi
    obtain rfl : i = 0 := by omega
    obtain ⟨b, off, q, h1, h2, h3⟩ := hp.2.2 j hj
    cases h1
    exact ⟨tb, tf + j * 8, q, rfl, fun o ho => by rw [Nat.zero_mul, Nat.add_zero]; exact h2 o ho, h3⟩⟩
  refine (check_any (aloneP p j) w sa _ sc (tc - j) ha hg).mono ?_
  rintro e w' ⟨v, L, rfl, h1, h2, h3, h4⟩
  exact ⟨v, rfl, ⟨L, h1.down hB.size, h2, h3⟩, mem_then hB h4, h4⟩
theorem ofOut_any (p : Prg) (j : Nat) (W w : World) (v : Value) (h : CkOut p j W.heap.size w v) (hB : Below W.heap.size W w) :
    Calls Tryd.prog 19 #[v, .int .i64 0] w fun e w' => ∃ v', e = .returned v' ∧ OfOut p j W.heap.size w' v' ∧ Below W.heap.size W w' ∧ Below w.heap.size w w' := by
  obtain ⟨L, h1, h2, h3⟩ := h
  refine (of_any W.heap.size 0 L w v h1 hB.size (by omega)).mono ?_
  rintro e w' ⟨v', rfl, h4, h5⟩
  refine ⟨v', rfl, ⟨_, h4, ?_, Nat.le_trans (List.length_filter_le _ _) h3⟩, mem_then hB h5, h5⟩
  unfold mineF
  rw [← h2]
  unfold flat
  rw [List.filter_map]
  rfl
theorem checkTasks_any (p : Prg) (k : Int) (w : World) (sa ta : Option Addr) (sc tc : Nat) (hp : PrgAt w p sa ta) (hg : SignsIn w) (hk : 0 ≤ k ∧ k ≤ 255) (hcp : p.tasks.length ≤ tc) :
    Calls Tryd.prog 4 #[p.val sa sc ta tc, .int .u8 k] w fun e w' => e = .returned (.bool true) ∧ Below w.heap.size w w' := by
  have hsl := hp.1.1
  have htl := hp.2.1
  obtain ⟨W, hW⟩ : ∃ W : World, w.alloc (prgObj p sa sc ta tc) = W := ⟨_, rfl⟩
  have HBW : Hid (Below w.heap.size w W) := by show Below _ _ _; rw [← hW]; exact mem_alloc _ _
  have HBX : Hid (W.heap[w.heap.size]? = some (prgObj p sa sc ta tc)) := by show _ = _; rw [← hW]; exact mem_new _ _
  have HP := Lib.hid (hp.below HBW.out)
  have HG := Lib.hid (hg.below HBW.out)
  -- what every later world keeps
  have HK : Hid (∀ w', Below W.heap.size W w' → Below w.heap.size w w' ∧ w'.cell? ⟨w.heap.size, 0, none⟩ = some (.slice sa p.shared.length sc) ∧ w'.cell? ⟨w.heap.size, 1, none⟩ = some (.slice ta p.tasks.length tc) ∧ PrgAt w' p sa ta ∧ SignsIn w') := fun w' h => by
    have hb := mem_keep HBX.out h
    exact ⟨HBW.out.trans (h.mono HBW.out.size), mem_cell hb 0, mem_cell hb 1, HP.out.below h, HG.out.below h⟩
  clear hp hg
  go_enter Tryd.func4, Tryd.ntmps4
  go_wp2_with fail
  clear hW
  refine (awake15_any W HG.out).mono ?_
  rintro e w1 ⟨rfl, hB1⟩
  have HB1 := Lib.hid hB1
  obtain ⟨_, y0, y1, hp1, hg1⟩ := HK.out w1 hB1
  have HP1 := Lib.hid hp1
  have HG1 := Lib.hid hg1
  clear hp1 hg1 hB1
  go_wp2_with fail
  clear y0 y1
  refine (small15_any p w1 sa ta sc tc HP1.out).mono ?_
  rintro e w2 ⟨rfl, hB2⟩
  have HB2 : Hid (Below W.heap.size W w2) := mem_then HB1.out hB2
  obtain ⟨_, y0, y1, hp2, hg2⟩ := HK.out w2 HB2.out
  have HP2 := Lib.hid hp2
  have HG2 := Lib.hid hg2
  have HAW : Hid (∀ w', Below W.heap.size W w' → Calls Tryd.prog 12 #[] w' fun e w'' => e = .returned (.bool true) ∧ Below w.heap.size w w'') := fun w' h => by
    refine (awake15_any w' (HG.out.below h)).mono ?_
    rintro e w9 ⟨he, hB9⟩
    exact ⟨he, (HK.out w9 (mem_then h hB9)).1⟩
  clear hB2 hp2 hg2
  cases hs : smallP p with
  | false =>
    rw [show num01 false = 0 from rfl]
    go_wp2_with fail
    refine (HAW.out w2 HB2.out).mono ?_
    rintro e w3 ⟨rfl, hB3⟩
    have HB3 := Lib.hid hB3
    clear hB3
    go_wp2_with fail
    go_ret
    exact ⟨rfl, HB3.out⟩
  | true =>
  rw [show num01 true = 1 from rfl]
  clear hs
  by_cases h0 : p.tasks.length = 0
  · have hz : ((p.tasks.length : Int) == 0) = true := by simp [h0]
    clear h0
    go_wp2_with fail
    refine (HAW.out w2 HB2.out).mono ?_
    rintro e w3 ⟨rfl, hB3⟩
    have HB3 := Lib.hid hB3
    clear hB3
    go_wp2_with fail
    go_ret
    exact ⟨rfl, HB3.out⟩
  have hz : ((p.tasks.length : Int) == 0) = false := by rw [beq_eq_false_iff_ne]; omega
  go_wp2_with fail
  clear y0 y1
  refine (valid_any p w2 sa ta sc tc HP2.out HG2.out).mono ?_
  rintro e w3 ⟨rfl, hB3⟩
  have HB3 : Hid (Below W.heap.size W w3) := mem_then HB2.out hB3
  clear hB3
  cases hv : prgOk p with
  | false =>
    go_wp2_with fail
    refine (HAW.out w3 HB3.out).mono ?_
    rintro e w4 ⟨rfl, hB4⟩
    have HB4 := Lib.hid hB4
    clear hB4
    go_wp2_with fail
    go_ret
    exact ⟨rfl, HB4.out⟩
  | true =>
  have HV := Lib.hid hv
  clear hv
  obtain ⟨_, y0, y1, hp3, hg3⟩ := HK.out w3 HB3.out
  have HP3 := Lib.hid hp3
  have HG3 := Lib.hid hg3
  clear hp3 hg3
  have hlen0 : (p.tasks.length : Int) ≠ 0 := by omega
  obtain ⟨i, hi⟩ : ∃ i : Nat, k % (p.tasks.length : Int) = (i : Int) := ⟨(k % (p.tasks.length : Int)).toNat, by have := Int.emod_nonneg k hlen0; omega⟩
  have hil : i < p.tasks.length := by have := Int.emod_lt_of_pos k (show (0 : Int) < (p.tasks.length : Int) by omega); omega
  have hi2 : (i : Int) < (p.tasks.length : Int) := by omega
  have hi0 : (0 : Int) ≤ (i : Int) := by omega
  have hitc : i ≤ tc := by omega
  obtain ⟨tb, tf, q0, rfl, _, _⟩ := HP3.out.2.2 i hil
  go_wp2_with fail
  clear y0 y1
  simp only [hi]
  go_loopw [6, 44] (fun u iv wr => ∃ j : Nat, j ≤ i ∧ iv = .int .i64 (j : Int) ∧ u = .bool (memB ((p.tasks.take j).map (·.name)) (p.tasks.getD i Tsk.none).name) ∧ Below W.heap.size W wr) (fun _ iv _ => i - (intOf iv).toNat)
  case atStart => exact ⟨0, Nat.zero_le _, rfl, rfl, HB3.out⟩
  case round =>
    obtain ⟨j, hj, rfl, rfl, hBr⟩ := hrel
    have HBR := Lib.hid hBr
    have hj0 : (0 : Int) ≤ (j : Int) := by omega
    obtain ⟨_, _, y1, hpr, _⟩ := HK.out wr hBr
    clear hBr
    by_cases hlt : j < i
    · have hlt2 : (j : Int) < (i : Int) := by omega
      obtain ⟨b1, o1, q1, ha1, hc1, _⟩ := hpr.2.2 j (by omega)
      obtain ⟨b2, o2, q2, ha2, hc2, _⟩ := hpr.2.2 i hil
      cases ha1
      cases ha2
      obtain ⟨t1, ht1⟩ : ∃ t, p.tasks.getD j Tsk.none = t := ⟨_, rfl⟩
      obtain ⟨t2, ht2⟩ : ∃ t, p.tasks.getD i Tsk.none = t := ⟨_, rfl⟩
      have HNX : Hid (memB ((p.tasks.take (j + 1)).map (·.name)) t2.name = (memB ((p.tasks.take j).map (·.name)) t2.name || decide (t1.name = t2.name))) := by
        show _ = _
        rw [take_more (d := Tsk.none) (by omega), List.map_append, ht1]
        exact memB_snoc _ _ _
      rw [ht1] at hc1
      rw [ht2] at hc2 ⊢
      obtain ⟨⟨g0, g1, g2, g3, g4, g5, g6, g7⟩, _⟩ := tsk_cells (Below.refl _ _) hc1
      obtain ⟨⟨e0, _⟩, _⟩ := tsk_cells (Below.refl _ _) hc2
      obtain ⟨D, hD⟩ : ∃ D : World, wr.alloc (tskObj t1 q1) = D := ⟨_, rfl⟩
      have hBD : Below wr.heap.size wr D := by rw [← hD]; exact mem_alloc _ _
      have hX : D.heap[wr.heap.size]? = some (tskObj t1 q1) := by rw [← hD]; exact mem_new _ _
      have x0 : D.cell? ⟨wr.heap.size, 0, none⟩ = some (.string t1.name) := mem_cell hX 0
      have e0' : D.cell? ⟨tb, tf + i * 8, none⟩ = some (.string t2.name) := cell_below hBD e0
      have y1' := cell_below hBD y1
      have HBD : Hid (Below W.heap.size W D) := mem_then HBR.out hBD
      obtain ⟨tw, htw⟩ : ∃ tw, memB ((p.tasks.take j).map (·.name)) t2.name = tw := ⟨_, rfl⟩
      rw [htw] at HNX ⊢
      clear hc1 hc2 hpr hX hBD ht1 ht2 htw e0
      cases tw with
      | true =>
        go_wp2_with fail
        go_region
        go_wp2_with fail
        go_roundw
        case rel => exact ⟨j + 1, by omega, by go_num, by rw [HNX.out]; rfl, HBD.out.drew⟩
        case measure => simp [intOf]; omega
      | false =>
        go_wp2_with fail
        go_region
        go_wp2_with fail
        go_roundw
        case rel => exact ⟨j + 1, by omega, by go_num, by rw [HNX.out, name_beq]; rfl, HBD.out.drew⟩
        case measure => simp [intOf]; omega
    · obtain rfl : j = i := by omega
      have HTW : Hid (memB ((p.tasks.take j).map (·.name)) (p.tasks.getD j Tsk.none).name = twiceP p j) := rfl
      rw [HTW.out]
      obtain ⟨_, y0, y1, hpr, hgr⟩ := HK.out wr HBR.out
      have HPR := Lib.hid hpr
      have HGR := Lib.hid hgr
      clear hpr hgr hlt
      go_wp2_with fail
      clear y0 y1
      refine (check_any p wr sa (some ⟨tb, tf, none⟩) sc tc HPR.out HGR.out).mono ?_
      rintro e w4 ⟨v, L, rfl, hL, hF, hlen, hB4⟩
      have HL := Lib.hid hL
      have HF := Lib.hid hF
      have HLN := Lib.hid hlen
      have HB4 : Hid (Below W.heap.size W w4) := mem_then HBR.out hB4
      have HBR4 : Hid (wr.heap.size ≤ w4.heap.size) := hB4.size
      clear hL hF hlen hB4
      go_wp2_with fail
      refine (of_any wr.heap.size (j : Int) L w4 v HL.out HBR4.out (by have := HLN.out; omega)).mono ?_
      rintro e w5 ⟨v1, rfl, hL1, hB5⟩
      have HB5 : Hid (Below W.heap.size W w5) := mem_then HB4.out hB5
      obtain ⟨L1, hL1e⟩ : ∃ L1, L.filter (fun f => decide (f.task = (j : Int))) = L1 := ⟨_, rfl⟩
      rw [hL1e] at hL1
      have HF1 : Hid (flat L1 = mineF p j) := by
        show _ = _
        rw [← hL1e]
        unfold mineF flat
        rw [← HF.out]
        unfold flat
        rw [List.filter_map]
        rfl
      have HL1 := Lib.hid hL1
      clear hL1 hL1e hB5
      have HLE1 : Hid (L1.length ≤ 4000) := by
        show _ ≤ _
        have h := congrArg List.length HF1.out
        have h2 := congrArg List.length HF.out
        unfold flat at h h2
        rw [List.length_map] at h h2
        rw [h]
        unfold mineF
        refine Nat.le_trans (List.length_filter_le _ _) ?_
        rw [← h2]
        exact HLN.out

      obtain ⟨va1, vc1, hv1⟩ := own_val HL1.out.ro
      obtain ⟨n1, hn1⟩ : ∃ n1, L1.length = n1 := ⟨_, rfl⟩
      rw [hn1] at hv1
      subst hv1
      have HN1 := Lib.hid hn1
      have hnle : n1 ≤ 4000 := by have := HLE1.out; omega
      clear hn1
      obtain ⟨tw, htw⟩ : ∃ tw, twiceP p j = tw := ⟨_, rfl⟩
      rw [htw]
      go_upto_if 66 with fail
      go_cut [10] from 67 to 99 (fun s w' => ∃ M a c, s = .slice a M.length c ∧ FRow w' a M ∧ flat M = (taskF (p.shared.map (·.name)) (p.tasks.getD j Tsk.none)).map (TFlt.mk (j : Int)) ∧ M.length ≤ 4000 ∧ Below W.heap.size W w')
      case first =>
        have HLL : Hid (FltsAt wr.heap.size w5 (.slice va1 L1.length vc1) L1) := by show FltsAt _ _ _ _; rw [HN1.out]; exact HL1.out
        cases tw with
        | false =>
          have HFF : Hid (flat L1 = (taskF (p.shared.map (·.name)) (p.tasks.getD j Tsk.none)).map (TFlt.mk (j : Int))) := by
            show _ = _
            rw [HF1.out, mineF_eq HV.out hil, htw]
            rfl
          clear htw
          go_wp2_with fail
          go_meet
          exact ⟨L1, va1, vc1, by rw [HN1.out], HLL.out.frow, HFF.out, HLE1.out, HB5.out⟩
        | true =>
          have HHD : Hid (∃ f M, L1 = f :: M ∧ f.flt = ⟨[], 8, (p.tasks.getD j Tsk.none).name⟩ ∧ flat M = (taskF (p.shared.map (·.name)) (p.tasks.getD j Tsk.none)).map (TFlt.mk (j : Int))) := by
            have h := HF1.out
            rw [mineF_eq HV.out hil, htw] at h
            match L1, h with
            | f :: M, h =>
              unfold flat at h
              simp only [List.map_cons, if_pos, List.singleton_append, List.cons.injEq] at h
              refine ⟨f, M, rfl, ?_, h.2⟩
              have := h.1
              injection this
          obtain ⟨f, M, rfl, hfe, hfm⟩ := HHD.out
          obtain ⟨ft, ⟨fp, fe, fn⟩, fv⟩ := f
          simp only [Flt.mk.injEq] at hfe
          obtain ⟨rfl, rfl, rfl⟩ := hfe
          obtain ⟨gb, rfl, _, _⟩ := own_at HLL.out.ro (by simp)
          obtain ⟨r0, r1, r2, r3⟩ := HLL.out.four (j := 0) (by simp)
          obtain ⟨pa, pc, rfl⟩ : ∃ pa pc, fv = .slice pa 0 pc := own_val (HLL.out.ri _ (List.mem_cons_self ..))
          simp only [List.getElem_cons_zero, Nat.zero_mul, Nat.zero_add] at r0 r1 r2 r3
          obtain ⟨_, y0, y1, hpr5, _⟩ := HK.out w5 HB5.out
          obtain ⟨b2, o2, q2, ha2, hc2, _⟩ := hpr5.2.2 j hil
          cases ha2
          obtain ⟨⟨e0, _⟩, _⟩ := tsk_cells (Below.refl _ _) hc2
          have HFM := Lib.hid hfm
          have HNM : Hid (n1 = M.length + 1) := HN1.out.symm
          have hn0 : 0 < n1 := by have := HNM.out; omega
          have hn1i : (1 : Int) ≤ (n1 : Int) := by omega
          have hnz : ((n1 : Int) == 0) = false := by rw [beq_eq_false_iff_ne]; omega
          have hnp : (0 : Int) < (n1 : Int) := by omega
          have hne : ((p.tasks.getD j Tsk.none).name.toList != (p.tasks.getD j Tsk.none).name.toList) = false := by simp
          have hcap : n1 ≤ vc1 := by
            rcases HLL.out.ro.2 with ⟨h1, _⟩ | ⟨g9, cap9, cur9, hv9, _, _, hc9, _⟩
            · cases h1
            · injection hv9 with _ _ h9
              have := HNM.out
              rw [List.length_cons] at hc9
              omega
          have HFR := Lib.hid HLL.out.frow
          have HML : Hid (M.length ≤ 4000) := by show _ ≤ _; have := HNM.out; omega
          clear hc2 hpr5 hfm htw HHD HL1 HLL
          by_cases hvc : vc1 = 1
          · subst hvc
            have HM0 : Hid (M = []) := List.length_eq_zero_iff.1 (by have := HNM.out; omega)
            obtain rfl : n1 = 1 := by omega
            go_wp2_with fail
            go_region
            go_wp2_with fail
            go_meet
            refine ⟨M, some ⟨gb, 0, none⟩, 0, by rw [HM0.out]; rfl, ?_, HFM.out, HML.out, HB5.out.drew⟩
            rw [HM0.out]
            exact fun j hj => absurd hj (Nat.not_lt_zero _)
          · have hvc1 : 1 < vc1 := by omega
            go_wp2_with fail
            go_region
            go_wp2_with fail
            go_meet
            refine ⟨M, some ⟨gb, 4, none⟩, vc1 - 1, by rw [show n1 - 1 = M.length by have := HNM.out; omega], ?_, HFM.out, HML.out, HB5.out.drew⟩
            exact HFR.out.tail.below ((Below.refl _ _).drew)
      obtain ⟨M, ma, mc, rfl, hM, hMF, hMl, hBc⟩ := hcut
      obtain ⟨w6, hw6⟩ : ∃ w6 : World, w6 = wc := ⟨_, rfl⟩
      rw [← hw6] at hM hBc ⊢
      clear hw6
      have HM := Lib.hid hM
      have HMF := Lib.hid hMF
      have HB6 := Lib.hid hBc
      obtain ⟨_, y0, y1, hp6, hg6⟩ := HK.out w6 hBc
      have HP6 := Lib.hid hp6
      have HG6 := Lib.hid hg6
      clear hM hMF hBc hp6 hg6
      clear y0 y1
      have HS : Hid (∀ w', Below W.heap.size W w' → w'.cell? ⟨w.heap.size, 0, none⟩ = some (.slice sa p.shared.length sc) ∧ w'.cell? ⟨w.heap.size, 1, none⟩ = some (.slice (some ⟨tb, tf, none⟩) p.tasks.length tc) ∧ Below W.heap.size W w') := fun w' h => by
        obtain ⟨_, y0, y1, _⟩ := HK.out w' h
        exact ⟨y0, y1, h⟩
      have HCK : Hid (∀ w', Below W.heap.size W w' → Calls Tryd.prog 14 #[.agg #[.slice sa p.shared.length sc, .slice (some ⟨tb, tf + j * 8, none⟩) 1 (tc - j)]] w' fun e w'' => ∃ v, e = .returned v ∧ CkOut p j W.heap.size w'' v ∧ Below W.heap.size W w'' ∧ Below w'.heap.size w' w'') := fun w' h => by
        obtain ⟨_, _, _, h3, h4⟩ := HK.out w' h
        exact ck_any p j W w' sa tb tf sc tc h3 h4 hil h
      have hj1 : (0 : Int) ≤ (j : Int) + 1 := by omega
      have hj2 : (j : Int) ≤ (j : Int) + 1 := by omega
      have hj3 : (j : Int) + 1 ≤ (tc : Int) := by omega
      have hj4 : (j : Int) ≤ (tc : Int) := by omega
      obtain ⟨_, y0, y1, _⟩ := HK.out w6 HB6.out
      have hb6 := HB6.out
      have hj5 : j + 1 ≤ tc := by omega
      have hj6 : (j : Int) + 1 ≤ (tc : Int) := by omega
      have hj7 : IntKind.i64.wrap ((j : Int) + 1) = (j : Int) + 1 := by rw [IntKind.wrap_i64]; omega
      have hj8 : ((j : Int) + 1).toNat = j + 1 := by omega
      have hj9 : j + 1 - j = 1 := by omega
      have hj10 : ¬ tc = j := by omega
      go_wp2_with fail
      refine wp_region_held_drew (S := fun w' => w'.cell? ⟨w.heap.size, 0, none⟩ = some (.slice sa p.shared.length sc) ∧ w'.cell? ⟨w.heap.size, 1, none⟩ = some (.slice (some ⟨tb, tf, none⟩) p.tasks.length tc) ∧ Below W.heap.size W w') (by kernel_rfl) (HS.out _ HB6.out.drew) (fun hHeld => ?_)
      have HBV : Hid (Below w6.heap.size w6 w6.drew) := (Below.refl _ _).drew
      generalize hwd : World.drew _ = v0 at hHeld HBV ⊢
      clear hwd
      refine wpAnyH_take (i := 0) (v := .func (.func 19) #[] #[]) rfl (by kernel_rfl) (by kernel_rfl) (by kernel_rfl) (fun _ _ _ h => h) (Or.inl ⟨by rfl, ?_⟩) (by assumption) ?_
      · intro w' hSw; go_simp
      (try simp only [Act.put, List.getElem_toArray, List.getElem_cons_zero, List.setIfInBounds_toArray, List.set_cons_zero, List.set_cons_succ])
      refine wpAnyH_take (i := 1) (v := .pointer (some ⟨w.heap.size, 0, none⟩)) rfl (by kernel_rfl) (by kernel_rfl) (by kernel_rfl) (fun _ _ _ h => h) (Or.inl ⟨by rfl, ?_⟩) (by assumption) ?_
      · intro w' hSw; go_simp
      (try simp only [Act.put, List.getElem_toArray, List.getElem_cons_zero, List.getElem_cons_succ, List.setIfInBounds_toArray, List.set_cons_zero, List.set_cons_succ])
      refine wpAnyH_take (i := 2) (v := .slice sa p.shared.length sc) rfl (by kernel_rfl) (by kernel_rfl) (by kernel_rfl) (fun _ _ _ h => h) (Or.inl ⟨by rfl, ?_⟩) (by assumption) ?_
      · intro w' hSw; obtain ⟨z0, z1, _⟩ := hSw; go_simp
      (try simp only [Act.put, List.getElem_toArray, List.getElem_cons_zero, List.getElem_cons_succ, List.setIfInBounds_toArray, List.set_cons_zero, List.set_cons_succ])
      refine wpAnyH_take (i := 3) (v := .pointer (some ⟨w.heap.size, 1, none⟩)) rfl (by kernel_rfl) (by kernel_rfl) (by kernel_rfl) (fun _ _ _ h => h) (Or.inl ⟨by rfl, ?_⟩) (by assumption) ?_
      · intro w' hSw; go_simp
      (try simp only [Act.put, List.getElem_toArray, List.getElem_cons_zero, List.getElem_cons_succ, List.setIfInBounds_toArray, List.set_cons_zero, List.set_cons_succ])
      refine wpAnyH_take (i := 4) (v := .slice (some ⟨tb, tf, none⟩) p.tasks.length tc) rfl (by kernel_rfl) (by kernel_rfl) (by kernel_rfl) (fun _ _ _ h => h) (Or.inl ⟨by rfl, ?_⟩) (by assumption) ?_
      · intro w' hSw; obtain ⟨z0, z1, _⟩ := hSw; go_simp
      (try simp only [Act.put, List.getElem_toArray, List.getElem_cons_zero, List.getElem_cons_succ, List.setIfInBounds_toArray, List.set_cons_zero, List.set_cons_succ])
      refine wpAnyH_take (i := 5) (v := .int .i64 (j : Int)) rfl (by kernel_rfl) (by kernel_rfl) (by kernel_rfl) (fun _ _ _ h => h) (Or.inl ⟨by rfl, ?_⟩) (by assumption) ?_
      · intro w' hSw; go_simp
      (try simp only [Act.put, List.getElem_toArray, List.getElem_cons_zero, List.getElem_cons_succ, List.setIfInBounds_toArray, List.set_cons_zero, List.set_cons_succ])
      refine wpAnyH_take (i := 6) (v := .int .i64 (j : Int)) rfl (by kernel_rfl) (by kernel_rfl) (by kernel_rfl) (fun _ _ _ h => h) (Or.inl ⟨by rfl, ?_⟩) (by assumption) ?_
      · intro w' hSw; go_simp
      (try simp only [Act.put, List.getElem_toArray, List.getElem_cons_zero, List.getElem_cons_succ, List.setIfInBounds_toArray, List.set_cons_zero, List.set_cons_succ])
      refine wpAnyH_take (i := 7) (v := .int .i64 ((j : Int) + 1)) rfl (by kernel_rfl) (by kernel_rfl) (by kernel_rfl) (fun _ _ _ h => h) (Or.inl ⟨by rfl, ?_⟩) (by assumption) ?_
      · intro w' hSw; go_simp
      (try simp only [Act.put, List.getElem_toArray, List.getElem_cons_zero, List.getElem_cons_succ, List.setIfInBounds_toArray, List.set_cons_zero, List.set_cons_succ])
      refine wpAnyH_take (i := 8) (v := .slice (some ⟨tb, tf + j * 8, none⟩) 1 (tc - j)) rfl (by kernel_rfl) (by kernel_rfl) (by kernel_rfl) (fun _ _ _ h => h) (Or.inl ⟨by rfl, ?_⟩) (by assumption) ?_
      · intro w' hSw; go_simp
      (try simp only [Act.put, List.getElem_toArray, List.getElem_cons_zero, List.getElem_cons_succ, List.setIfInBounds_toArray, List.set_cons_zero, List.set_cons_succ])
      refine wpAnyH_take (i := 9) (v := .agg #[.slice sa p.shared.length sc, .slice (some ⟨tb, tf + j * 8, none⟩) 1 (tc - j)]) rfl (by kernel_rfl) (by kernel_rfl) (by kernel_rfl) (fun _ _ _ h => h) (Or.inl ⟨by rfl, ?_⟩) (by assumption) ?_
      · intro w' hSw; go_simp
      (try simp only [Act.put, List.getElem_toArray, List.getElem_cons_zero, List.getElem_cons_succ, List.setIfInBounds_toArray, List.set_cons_zero, List.set_cons_succ])
      refine wpAnyH_ready (rs := [10]) (by kernel_rfl) (by simp) (AllReadyH.cons rfl (fun K hK => ?_) AllReadyH.nil)
      go_simp
      refine (HCK.out _ hHeld.2.2).mono ?_
      rintro e w9 ⟨v9, rfl, hck, hB9, hb9⟩
      refine hK.out _ _ (HS.out _ hB9) (fun hHeld => ?_)
      clear hK K
      rename_i hOld
      clear hOld
      (try simp only [Act.put, List.getElem_toArray, List.getElem_cons_zero, List.getElem_cons_succ, List.setIfInBounds_toArray, List.set_cons_zero, List.set_cons_succ])
      refine wpAnyH_ready (rs := [11]) (by kernel_rfl) (by simp) (AllReadyH.cons rfl (fun K hK => ?_) AllReadyH.nil)
      go_simp
      refine (ofOut_any p j W _ _ hck hB9).mono ?_
      rintro e w10 ⟨v10, rfl, hof, hB10, hb10⟩
      have HBB : Hid (Below w6.heap.size w6 w10) := mem_then (mem_then HBV.out hb9) hb10
      clear hb9 hb10
      clear hck hB9
      refine hK.out _ _ (HS.out _ hB10) (fun hHeld => ?_)
      clear hK K
      rename_i hOld
      clear hOld
      (try simp only [Act.put, List.getElem_toArray, List.getElem_cons_zero, List.getElem_cons_succ, List.setIfInBounds_toArray, List.set_cons_zero, List.set_cons_succ])
      refine wpAnyH_ready (rs := [12]) (by kernel_rfl) (by simp) (AllReadyH.cons rfl (fun K hK => ?_) AllReadyH.nil)
      go_simp
      refine hK.out _ _ (HS.out _ hB10) (fun hHeld => ?_)
      clear hK K
      rename_i hOld
      clear hOld
      (try simp only [Act.put, List.getElem_toArray, List.getElem_cons_zero, List.getElem_cons_succ, List.setIfInBounds_toArray, List.set_cons_zero, List.set_cons_succ])
      refine wpAnyH_done (by kernel_rfl) ?_ _
      obtain ⟨L2, hL2, hF2, hl2⟩ := hof
      have HMM : Hid (L2.length = M.length ∧ ∀ m (h1 : m < M.length) (h2 : m < L2.length), M[m].flt = L2[m].flt) := by
        have h1 := HMF.out
        rw [mineF_alone HV.out hil] at hF2
        exact flat_same h1 hF2
      obtain ⟨va2, vc2, rfl⟩ := own_val hL2.ro
      obtain ⟨n2, hn2⟩ : ∃ n2, n2 = M.length := ⟨_, rfl⟩
      have HN2 := Lib.hid hn2
      have HM10 : Hid (FRow w10 ma M) := HM.out.below HBB.out
      have HL2 := Lib.hid hL2
      have HB10 := Lib.hid hB10
      rw [HMM.out.1, ← hn2]
      have hn2l : n2 ≤ 4000 := by omega
      have hnn : ((n2 : Int) != (n2 : Int)) = false := by simp
      clear hn2 hL2 hF2 hB10 hHeld
      go_wp2_with fail
      clear hnn
      go_loopw [12, 119] (fun _ iv wr => ∃ m : Nat, m ≤ n2 ∧ iv = .int .i64 (m : Int) ∧ Below w10.heap.size w10 wr) (fun _ iv _ => n2 - (intOf iv).toNat)
      case atStart => exact ⟨0, Nat.zero_le _, rfl, Below.refl _ _⟩
      case round =>
        obtain ⟨m, hm, rfl, hB⟩ := hrel
        have HB := Lib.hid hB
        have hm0 : (0 : Int) ≤ (m : Int) := by omega
        clear hB
        have HEND : Hid (Below w.heap.size w w10) := (HK.out _ HB10.out).1
        by_cases hlt : m < n2
        · have hlt2 : (m : Int) < (n2 : Int) := by omega
          have hltM : m < M.length := by have := HN2.out; omega
          have hltL : m < L2.length := by have h1 := HMM.out.1; omega
          have HL3 : Hid (FltsAt W.heap.size wr (.slice va2 L2.length vc2) L2) := HL2.out.keep HB.out
          obtain ⟨g2, rfl, _, _⟩ := own_at HL3.out.ro (by omega)
          obtain ⟨r0, r1, r2, r3⟩ := HL3.out.four hltL
          have HPA := Lib.hid (HL3.out.ri L2[m] (List.getElem_mem hltL))
          obtain ⟨mb, mo, rfl, q0, q1, q2, q3, qa, qc, hqv, hqr⟩ := (HM10.out.below HB.out) m hltM
          have HFE : Hid (M[m].flt = L2[m].flt) := HMM.out.2 m hltM hltL
          obtain ⟨f, hf⟩ : ∃ f, L2[m] = f := ⟨_, rfl⟩
          obtain ⟨g, hg⟩ : ∃ g, M[m] = g := ⟨_, rfl⟩
          rw [hf] at r0 r1 r2 r3 HPA HFE
          rw [hg] at q0 q1 q2 q3 hqv hqr HFE
          clear hf hg
          obtain ⟨ft, ⟨fp, fe, fn⟩, fv⟩ := f
          obtain ⟨gt, gf, gv⟩ := g
          obtain rfl : gf = ⟨fp, fe, fn⟩ := HFE.out
          obtain rfl : gv = .slice qa fp.length qc := hqv
          obtain ⟨fa, fc, rfl⟩ : ∃ fa fc, fv = .slice fa fp.length fc := own_val HPA.out
          have HFR : Hid (IRow wr fa fp) := PathV.row HPA.out
          have HQR := Lib.hid hqr
          have hpz : fp.length ≤ 9223372036854775807 := HFR.out.1
          obtain ⟨D, hD⟩ : ∃ D : World, wr.alloc (.cells #[.int .i64 ft, .slice fa fp.length fc, .int .i64 fe, .string fn] 38) = D := ⟨_, rfl⟩
          have hBD : Below wr.heap.size wr D := by rw [← hD]; exact mem_alloc _ _
          have hX : D.heap[wr.heap.size]? = some (.cells #[.int .i64 ft, .slice fa fp.length fc, .int .i64 fe, .string fn] 38) := by rw [← hD]; exact mem_new _ _
          have HBD : Hid (Below w10.heap.size w10 D) := HB.out.trans (hBD.mono HB.out.size)
          have HS1 : Hid (∀ w', Below D.heap.size D w' → w'.cell? ⟨wr.heap.size, 1, none⟩ = some (.slice fa fp.length fc) ∧ w'.cell? ⟨wr.heap.size, 2, none⟩ = some (.int .i64 fe) ∧ w'.cell? ⟨wr.heap.size, 3, none⟩ = some (.string fn) ∧ w'.cell? ⟨mb, mo + m * 4 + 1, none⟩ = some (.slice qa fp.length qc) ∧ w'.cell? ⟨mb, mo + m * 4 + 2, none⟩ = some (.int .i64 fe) ∧ w'.cell? ⟨mb, mo + m * 4 + 3, none⟩ = some (.string fn) ∧ Below D.heap.size D w') := fun w' h =>
            ⟨(mem_cell (mem_keep hX h) 1).trans rfl, (mem_cell (mem_keep hX h) 2).trans rfl, (mem_cell (mem_keep hX h) 3).trans rfl, cell_below h (cell_below hBD q1), cell_below h (cell_below hBD q2), cell_below h (cell_below hBD q3), h⟩
          have HFRD := Lib.hid (HFR.out.below hBD)
          have HQRD := Lib.hid (HQR.out.below hBD)
          have hne2 : (fe != fe) = false := by simp
          have hne3 : (fn.toList != fn.toList) = false := by simp
          have hltM2 : (m : Int) < (M.length : Int) := by omega
          clear hqr hX hBD HPA HFE HFR HQR q0 q1 q2 q3
          go_wp2_with fail
          clear hD r0 r1 r2 r3
          refine wp_region_held_drew (S := fun w' => Below D.heap.size D w') (by kernel_rfl) ((Below.refl _ _).drew) (fun hHeld => ?_)
          generalize hwd : World.drew _ = v0 at hHeld ⊢
          clear hwd
          refine wpAnyH_take (i := 0) (v := .slice (some ⟨mb, mo, none⟩) n2 mc) rfl (by kernel_rfl) (by kernel_rfl) (by kernel_rfl) (fun _ _ _ h => h) (Or.inl ⟨by rfl, ?_⟩) (by assumption) ?_
          · intro w' hSw; go_simp
          (try simp only [Act.put, List.getElem_toArray, List.getElem_cons_zero, List.setIfInBounds_toArray, List.set_cons_zero, List.set_cons_succ])
          refine wpAnyH_take (i := 1) (v := .int .i64 (m : Int)) rfl (by kernel_rfl) (by kernel_rfl) (by kernel_rfl) (fun _ _ _ h => h) (Or.inl ⟨by rfl, ?_⟩) (by assumption) ?_
          · intro w' hSw; go_simp
          (try simp only [Act.put, List.getElem_toArray, List.getElem_cons_zero, List.getElem_cons_succ, List.setIfInBounds_toArray, List.set_cons_zero, List.set_cons_succ])
          refine wpAnyH_take (i := 2) (v := .pointer (some ⟨mb, mo + m * 4, none⟩)) rfl (by kernel_rfl) (by kernel_rfl) (by kernel_rfl) (fun _ _ _ h => h) (Or.inl ⟨by rfl, ?_⟩) (by assumption) ?_
          · intro w' hSw; go_simp
          (try simp only [Act.put, List.getElem_toArray, List.getElem_cons_zero, List.getElem_cons_succ, List.setIfInBounds_toArray, List.set_cons_zero, List.set_cons_succ])
          refine wpAnyH_take (i := 3) (v := .pointer (some ⟨mb, mo + m * 4 + 2, none⟩)) rfl (by kernel_rfl) (by kernel_rfl) (by kernel_rfl) (fun _ _ _ h => h) (Or.inl ⟨by rfl, ?_⟩) (by assumption) ?_
          · intro w' hSw; go_simp
          (try simp only [Act.put, List.getElem_toArray, List.getElem_cons_zero, List.getElem_cons_succ, List.setIfInBounds_toArray, List.set_cons_zero, List.set_cons_succ])
          refine wpAnyH_take (i := 4) (v := .int .i64 fe) rfl (by kernel_rfl) (by kernel_rfl) (by kernel_rfl) (fun _ _ _ h => h) (Or.inl ⟨by rfl, ?_⟩) (by assumption) ?_
          · intro w' hSw; obtain ⟨z1, z2, z3, z4, z5, z6, _⟩ := HS1.out _ hSw; go_simp
          (try simp only [Act.put, List.getElem_toArray, List.getElem_cons_zero, List.getElem_cons_succ, List.setIfInBounds_toArray, List.set_cons_zero, List.set_cons_succ])
          refine wpAnyH_take (i := 5) (v := .pointer (some ⟨wr.heap.size, 2, none⟩)) rfl (by kernel_rfl) (by kernel_rfl) (by kernel_rfl) (fun _ _ _ h => h) (Or.inl ⟨by rfl, ?_⟩) (by assumption) ?_
          · intro w' hSw; go_simp
          (try simp only [Act.put, List.getElem_toArray, List.getElem_cons_zero, List.getElem_cons_succ, List.setIfInBounds_toArray, List.set_cons_zero, List.set_cons_succ])
          refine wpAnyH_take (i := 6) (v := .int .i64 fe) rfl (by kernel_rfl) (by kernel_rfl) (by kernel_rfl) (fun _ _ _ h => h) (Or.inl ⟨by rfl, ?_⟩) (by assumption) ?_
          · intro w' hSw; obtain ⟨z1, z2, z3, z4, z5, z6, _⟩ := HS1.out _ hSw; go_simp
          (try simp only [Act.put, List.getElem_toArray, List.getElem_cons_zero, List.getElem_cons_succ, List.setIfInBounds_toArray, List.set_cons_zero, List.set_cons_succ])
          refine wpAnyH_take (i := 7) (v := .bool false) rfl (by kernel_rfl) (by kernel_rfl) (by kernel_rfl) (fun _ _ _ h => h) (Or.inl ⟨by rfl, ?_⟩) (by assumption) ?_
          · intro w' hSw; go_simp
          (try simp only [Act.put, List.getElem_toArray, List.getElem_cons_zero, List.getElem_cons_succ, List.setIfInBounds_toArray, List.set_cons_zero, List.set_cons_succ])
          refine wpAnyH_take (i := 8) (v := .bool false) rfl (by kernel_rfl) (by kernel_rfl) (by kernel_rfl) (fun _ _ _ h => h) (Or.inl ⟨by rfl, ?_⟩) (by assumption) ?_
          · intro w' hSw; go_simp
          (try simp only [Act.put, List.getElem_toArray, List.getElem_cons_zero, List.getElem_cons_succ, List.setIfInBounds_toArray, List.set_cons_zero, List.set_cons_succ])
          refine wpAnyH_take (i := 9) (v := .slice (some ⟨mb, mo, none⟩) n2 mc) rfl (by kernel_rfl) (by kernel_rfl) (by kernel_rfl) (fun _ _ _ h => h) (Or.inl ⟨by rfl, ?_⟩) (by assumption) ?_
          · intro w' hSw; go_simp
          (try simp only [Act.put, List.getElem_toArray, List.getElem_cons_zero, List.getElem_cons_succ, List.setIfInBounds_toArray, List.set_cons_zero, List.set_cons_succ])
          refine wpAnyH_take (i := 10) (v := .int .i64 (m : Int)) rfl (by kernel_rfl) (by kernel_rfl) (by kernel_rfl) (fun _ _ _ h => h) (Or.inl ⟨by rfl, ?_⟩) (by assumption) ?_
          · intro w' hSw; go_simp
          (try simp only [Act.put, List.getElem_toArray, List.getElem_cons_zero, List.getElem_cons_succ, List.setIfInBounds_toArray, List.set_cons_zero, List.set_cons_succ])
          refine wpAnyH_take (i := 11) (v := .pointer (some ⟨mb, mo + m * 4, none⟩)) rfl (by kernel_rfl) (by kernel_rfl) (by kernel_rfl) (fun _ _ _ h => h) (Or.inl ⟨by rfl, ?_⟩) (by assumption) ?_
          · intro w' hSw; go_simp
          (try simp only [Act.put, List.getElem_toArray, List.getElem_cons_zero, List.getElem_cons_succ, List.setIfInBounds_toArray, List.set_cons_zero, List.set_cons_succ])
          refine wpAnyH_take (i := 12) (v := .pointer (some ⟨mb, mo + m * 4 + 3, none⟩)) rfl (by kernel_rfl) (by kernel_rfl) (by kernel_rfl) (fun _ _ _ h => h) (Or.inl ⟨by rfl, ?_⟩) (by assumption) ?_
          · intro w' hSw; go_simp
          (try simp only [Act.put, List.getElem_toArray, List.getElem_cons_zero, List.getElem_cons_succ, List.setIfInBounds_toArray, List.set_cons_zero, List.set_cons_succ])
          refine wpAnyH_take (i := 13) (v := .string fn) rfl (by kernel_rfl) (by kernel_rfl) (by kernel_rfl) (fun _ _ _ h => h) (Or.inl ⟨by rfl, ?_⟩) (by assumption) ?_
          · intro w' hSw; obtain ⟨z1, z2, z3, z4, z5, z6, _⟩ := HS1.out _ hSw; go_simp
          (try simp only [Act.put, List.getElem_toArray, List.getElem_cons_zero, List.getElem_cons_succ, List.setIfInBounds_toArray, List.set_cons_zero, List.set_cons_succ])
          refine wpAnyH_take (i := 14) (v := .pointer (some ⟨wr.heap.size, 3, none⟩)) rfl (by kernel_rfl) (by kernel_rfl) (by kernel_rfl) (fun _ _ _ h => h) (Or.inl ⟨by rfl, ?_⟩) (by assumption) ?_
          · intro w' hSw; go_simp
          (try simp only [Act.put, List.getElem_toArray, List.getElem_cons_zero, List.getElem_cons_succ, List.setIfInBounds_toArray, List.set_cons_zero, List.set_cons_succ])
          refine wpAnyH_take (i := 15) (v := .string fn) rfl (by kernel_rfl) (by kernel_rfl) (by kernel_rfl) (fun _ _ _ h => h) (Or.inl ⟨by rfl, ?_⟩) (by assumption) ?_
          · intro w' hSw; obtain ⟨z1, z2, z3, z4, z5, z6, _⟩ := HS1.out _ hSw; go_simp
          (try simp only [Act.put, List.getElem_toArray, List.getElem_cons_zero, List.getElem_cons_succ, List.setIfInBounds_toArray, List.set_cons_zero, List.set_cons_succ])
          refine wpAnyH_take (i := 16) (v := .bool false) rfl (by kernel_rfl) (by kernel_rfl) (by kernel_rfl) (fun _ _ _ h => h) (Or.inl ⟨by rfl, ?_⟩) (by assumption) ?_
          · intro w' hSw; go_simp
          (try simp only [Act.put, List.getElem_toArray, List.getElem_cons_zero, List.getElem_cons_succ, List.setIfInBounds_toArray, List.set_cons_zero, List.set_cons_succ])
          refine wpAnyH_take (i := 17) (v := .bool false) rfl (by kernel_rfl) (by kernel_rfl) (by kernel_rfl) (fun _ _ _ h => h) (Or.inl ⟨by rfl, ?_⟩) (by assumption) ?_
          · intro w' hSw; go_simp
          (try simp only [Act.put, List.getElem_toArray, List.getElem_cons_zero, List.getElem_cons_succ, List.setIfInBounds_toArray, List.set_cons_zero, List.set_cons_succ])
          refine wpAnyH_take (i := 18) (v := .bool false) rfl (by kernel_rfl) (by kernel_rfl) (by kernel_rfl) (fun _ _ _ h => h) (Or.inl ⟨by rfl, ?_⟩) (by assumption) ?_
          · intro w' hSw; go_simp
          (try simp only [Act.put, List.getElem_toArray, List.getElem_cons_zero, List.getElem_cons_succ, List.setIfInBounds_toArray, List.set_cons_zero, List.set_cons_succ])
          refine wpAnyH_take (i := 19) (v := .slice (some ⟨mb, mo, none⟩) n2 mc) rfl (by kernel_rfl) (by kernel_rfl) (by kernel_rfl) (fun _ _ _ h => h) (Or.inl ⟨by rfl, ?_⟩) (by assumption) ?_
          · intro w' hSw; go_simp
          (try simp only [Act.put, List.getElem_toArray, List.getElem_cons_zero, List.getElem_cons_succ, List.setIfInBounds_toArray, List.set_cons_zero, List.set_cons_succ])
          refine wpAnyH_take (i := 20) (v := .int .i64 (m : Int)) rfl (by kernel_rfl) (by kernel_rfl) (by kernel_rfl) (fun _ _ _ h => h) (Or.inl ⟨by rfl, ?_⟩) (by assumption) ?_
          · intro w' hSw; go_simp
          (try simp only [Act.put, List.getElem_toArray, List.getElem_cons_zero, List.getElem_cons_succ, List.setIfInBounds_toArray, List.set_cons_zero, List.set_cons_succ])
          refine wpAnyH_take (i := 21) (v := .pointer (some ⟨mb, mo + m * 4, none⟩)) rfl (by kernel_rfl) (by kernel_rfl) (by kernel_rfl) (fun _ _ _ h => h) (Or.inl ⟨by rfl, ?_⟩) (by assumption) ?_
          · intro w' hSw; go_simp
          (try simp only [Act.put, List.getElem_toArray, List.getElem_cons_zero, List.getElem_cons_succ, List.setIfInBounds_toArray, List.set_cons_zero, List.set_cons_succ])
          refine wpAnyH_take (i := 22) (v := .pointer (some ⟨mb, mo + m * 4 + 1, none⟩)) rfl (by kernel_rfl) (by kernel_rfl) (by kernel_rfl) (fun _ _ _ h => h) (Or.inl ⟨by rfl, ?_⟩) (by assumption) ?_
          · intro w' hSw; go_simp
          (try simp only [Act.put, List.getElem_toArray, List.getElem_cons_zero, List.getElem_cons_succ, List.setIfInBounds_toArray, List.set_cons_zero, List.set_cons_succ])
          refine wpAnyH_take (i := 23) (v := .slice qa fp.length qc) rfl (by kernel_rfl) (by kernel_rfl) (by kernel_rfl) (fun _ _ _ h => h) (Or.inl ⟨by rfl, ?_⟩) (by assumption) ?_
          · intro w' hSw; obtain ⟨z1, z2, z3, z4, z5, z6, _⟩ := HS1.out _ hSw; go_simp
          (try simp only [Act.put, List.getElem_toArray, List.getElem_cons_zero, List.getElem_cons_succ, List.setIfInBounds_toArray, List.set_cons_zero, List.set_cons_succ])
          refine wpAnyH_take (i := 24) (v := .pointer (some ⟨wr.heap.size, 1, none⟩)) rfl (by kernel_rfl) (by kernel_rfl) (by kernel_rfl) (fun _ _ _ h => h) (Or.inl ⟨by rfl, ?_⟩) (by assumption) ?_
          · intro w' hSw; go_simp
          (try simp only [Act.put, List.getElem_toArray, List.getElem_cons_zero, List.getElem_cons_succ, List.setIfInBounds_toArray, List.set_cons_zero, List.set_cons_succ])
          refine wpAnyH_take (i := 25) (v := .slice fa fp.length fc) rfl (by kernel_rfl) (by kernel_rfl) (by kernel_rfl) (fun _ _ _ h => h) (Or.inl ⟨by rfl, ?_⟩) (by assumption) ?_
          · intro w' hSw; obtain ⟨z1, z2, z3, z4, z5, z6, _⟩ := HS1.out _ hSw; go_simp
          (try simp only [Act.put, List.getElem_toArray, List.getElem_cons_zero, List.getElem_cons_succ, List.setIfInBounds_toArray, List.set_cons_zero, List.set_cons_succ])
          refine wpAnyH_ready (rs := [26]) (by kernel_rfl) (by simp) (AllReadyH.cons rfl (fun K hK => ?_) AllReadyH.nil)
          go_simp
          refine (ieq_any fp fp _ qa fa qc fc (HQRD.out.below hHeld) (HFRD.out.below hHeld)).mono ?_
          rintro e w11 ⟨rfl, hb11⟩
          have HB11 := Lib.hid (mem_then hHeld hb11)
          rw [show decide (fp = fp) = true from decide_eq_true rfl]
          clear hb11
          refine hK.out _ _ (HB11.out) (fun hHeld => ?_)
          clear hK K
          rename_i hOld
          clear hOld
          (try simp only [Act.put, List.getElem_toArray, List.getElem_cons_zero, List.getElem_cons_succ, List.setIfInBounds_toArray, List.set_cons_zero, List.set_cons_succ])
          refine wpAnyH_take (i := 27) (v := .bool false) rfl (by kernel_rfl) (by kernel_rfl) (by kernel_rfl) (fun _ _ _ h => h) (Or.inl ⟨by rfl, ?_⟩) (by assumption) ?_
          · intro w' hSw; go_simp
          (try simp only [Act.put, List.getElem_toArray, List.getElem_cons_zero, List.getElem_cons_succ, List.setIfInBounds_toArray, List.set_cons_zero, List.set_cons_succ])
          refine wpAnyH_take (i := 28) (v := .bool false) rfl (by kernel_rfl) (by kernel_rfl) (by kernel_rfl) (fun _ _ _ h => h) (Or.inl ⟨by rfl, ?_⟩) (by assumption) ?_
          · intro w' hSw; go_simp
          (try simp only [Act.put, List.getElem_toArray, List.getElem_cons_zero, List.getElem_cons_succ, List.setIfInBounds_toArray, List.set_cons_zero, List.set_cons_succ])
          refine wpAnyH_done (by kernel_rfl) ?_ _
          clear hHeld
          go_wp2_with fail
          go_roundw
          case rel => exact ⟨m + 1, by omega, by go_num, HBD.out.trans (HB11.out.mono HBD.out.size)⟩
          case measure => simp [intOf]; omega
        · obtain rfl : m = n2 := by omega
          go_wp2_with fail
          go_ret
          exact ⟨rfl, HEND.out.trans (HB.out.mono HEND.out.size)⟩
end Go.Proofs.YtnegdmhmhdojbaaDoor
