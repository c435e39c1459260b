/-
  The law InterpJobs (package ontimelaw16).
-/
import Derived.Test.YtgochgcchkdlmaaDoorPuts
import Derived.Test.YtgochgcchkdlmaaDoorRefLaw
import Derived.Test.YtgochgcchkdlmaaDoorInAwake
namespace Go.Proofs.YtgochgcchkdlmaaDoor
set_option linter.unusedVariables false
set_option linter.unusedSimpArgs false
open Go.RowKit Go.Maps
set_option maxRecDepth 100000
set_option maxHeartbeats 80000000

theorem jobs_any (p : Prg) (task : Int) (M : Mem) (inp : List Int) (F : Int) (w : World) (sa ta : Option Addr) (sc tc : Nat) (ma ms : Option Addr) (mac msc : Nat) (ia : Option Addr) (ic : Nat)
    (hp : PrgAt w p sa ta) (hm : MemAt w M ma ms) (hi : WordsAt w ia inp) (hg : SignsIn w) (ht : isI64 task) (hF : isI64 F) (hic : ia = none → ic = 0) :
    Calls Tryd.prog 3 #[p.val sa sc ta tc, .int .i64 task, M.val ma mac ms msc, .slice ia inp.length ic, .int .i64 F] w fun e w' => e = .returned (.bool true) ∧ Below w.heap.size w w' := by
  have hil := hi.fits
  have hmf := hm.1.fits
  have hmsf := hm.2.fits
  obtain ⟨i0, hi0, hz00, hz01, hz02⟩ := info_parts i32_info
  obtain ⟨W, hW⟩ : ∃ W : World, w.alloc (prgObj p sa sc ta tc) = W := ⟨_, rfl⟩
  have hBW : Below w.heap.size w W := by rw [← hW]; exact mem_alloc _ _
  have hXW : W.heap[w.heap.size]? = some (prgObj p sa sc ta tc) := by rw [← hW]; exact mem_new _ _
  obtain ⟨W2, hW2⟩ : ∃ W2 : World, W.alloc (memObj M ma mac ms msc) = W2 := ⟨_, rfl⟩
  have hBW2 : Below W.heap.size W W2 := by rw [← hW2]; exact mem_alloc _ _
  have hXW2 : W2.heap[W.heap.size]? = some (memObj M ma mac ms msc) := by rw [← hW2]; exact mem_new _ _
  have HK : Hid (∀ w', Below W2.heap.size W2 w' → w'.heap[w.heap.size]? = some (prgObj p sa sc ta tc) ∧ w'.heap[W.heap.size]? = some (memObj M ma mac ms msc) ∧ PrgAt w' p sa ta ∧ MemAt w' M ma ms ∧ WordsAt w' ia inp ∧ SignsIn w' ∧ Below w.heap.size w w') := fun w' hw => by
    have hb := mem_then (mem_then hBW hBW2) hw
    exact ⟨mem_keep (mem_keep hXW hBW2) hw, mem_keep hXW2 hw, hp.below hb, hm.below hb, hi.below hb, hg.below hb, hb⟩
  have HAW := Lib.hid (awake_any W2 (HK.out W2 (Below.refl _ _)).2.2.2.2.2.1)
  have HT := Lib.hid ht
  have HFF := Lib.hid hF
  have HWA := Lib.hid (cont3_words hm.1)
  have HWS := Lib.hid (cont_words hm.2)
  have HWI : Hid (∀ x ∈ inp, Wd.W x) := hi.words
  have HPL : Hid (p.tasks.length ≤ 9223372036854775807 ∧ p.shared.length ≤ 9223372036854775807) := ⟨hp.2.1, hp.1.1⟩
  have hptl := hp.2.1
  have hpsl := hp.1.1
  have HIC := Lib.hid hic
  clear hp hm hi hg hBW hXW hBW2 hXW2 ht hF hic
  go_enter Tryd.func3, Tryd.ntmps3
  go_wp2_with fail
  clear hW hW2
  refine HAW.out.mono ?_
  rintro e w1 ⟨rfl, hB1⟩
  have HB1 := Lib.hid hB1
  obtain ⟨hx1, hx2, hp1, hm1, _, _, _⟩ := HK.out w1 hB1
  obtain ⟨x0, x1⟩ := mem_two hx1
  obtain ⟨y0, y1⟩ := mem_two hx2
  have HGR := Lib.hid (great16_any p M inp.length w1 sa ta sc tc ma ms mac msc ia ic hp1 hm1 hil)
  clear HAW hB1 hx1 hx2 hp1 hm1
  go_wp2_with fail
  clear x0 x1 y0 y1
  refine HGR.out.mono ?_
  rintro e w2 ⟨rfl, hB2⟩
  have HB2 := Lib.hid (mem_then HB1.out hB2)
  clear HGR hB2
  cases hbig : bigP p M inp.length with
  | true =>
    have hbn := bigN_t hbig
    clear hbig
    go_wp2_with fail
    go_ret
    exact ⟨rfl, (HK.out w2 HB2.out).2.2.2.2.2.2⟩
  | false =>
  have hbn := bigN_f hbig
  have HSM := Lib.hid (bigP_small16 hbig)
  have hn40 := HSM.out.2.2
  clear hbig
  by_cases hfu : 3000 < F
  · go_wp2_with fail
    go_ret
    exact ⟨rfl, (HK.out w2 HB2.out).2.2.2.2.2.2⟩
  obtain ⟨hx1, hx2, _, hm1, hi1, _, _⟩ := HK.out w2 HB2.out
  obtain ⟨x0, x1⟩ := mem_two hx1
  obtain ⟨y0, y1⟩ := mem_two hx2
  have HCL := Lib.hid (clone16_any M w2 ma ms mac msc hm1 ⟨by have := HSM.out.1.1; omega, fun r hr => by have := HSM.out.1.2 r hr; omega⟩ ⟨by have := HSM.out.2.1.1; omega, fun t ht => ⟨by have := (HSM.out.2.1.2 t ht).1; omega, fun r hr => by have := (HSM.out.2.1.2 t ht).2 r hr; omega⟩⟩)
  have HI1 := Lib.hid hi1
  clear hx1 hx2 hm1 hi1
  go_wp2_with fail
  clear x0 x1 y0 y1 hbn
  refine HCL.out.mono ?_
  rintro e w4 ⟨ca, cac, cs, csc, vs, us, ss, N1, rfl, hmo, hB4⟩
  have HMO4 := Lib.hid hmo
  have HB4 := Lib.hid hB4
  obtain ⟨X4, hX4⟩ : ∃ V : World, w4.alloc (.cells #[] 21) = V := ⟨_, rfl⟩
  have hb4 : Below w4.heap.size w4 X4 := by rw [← hX4]; exact mem_alloc _ _
  have HMADE : Hid (X4.ownsRow w4.heap.size 21 1 (.slice (some ⟨w4.heap.size, 0, none⟩) 0 0) 0 []) := by
    show World.ownsRow _ _ _ _ _ _ _
    rw [← hX4]
    exact World.ownsRow_made _ #[] 0 (Nat.le_refl _) (by unfold maxLen; omega) rfl
  have HX4B := Lib.hid hb4
  have HSRC := Lib.hid ((HI1.out.below (mem_then hB4 hb4)).src)
  clear HCL hmo hB4 hb4
  go_wp2_with (at_builtin; refine wpList_append_src _ rfl (.tmp 32) (.tmp 33) 30 rfl w4.heap.size 21 i0 _ 1 4 Tryd.underlying30 hi0 hz00 hz01 hz02 rfl (by decide) (.slice (some ⟨w4.heap.size, 0, none⟩) 0 0) 0 [] rfl HMADE.out ia inp.length ic (i32s inp) rfl HSRC.out (i32s_one inp) (by unfold maxLen; omega) (by omega) HX4B.out.size ?_)
  intro u5 w5 hown5 hgrow5 _
  have hown5 : w5.ownsRow w4.heap.size 21 1 u5 inp.length (i32s inp) := by simpa using hown5
  obtain ⟨ua5, uc5, rfl⟩ := own_val hown5
  have hB5 : Below w4.heap.size w4 w5 := HX4B.out.grown hgrow5 HX4B.out.size (fun b hb => (own_lt HMADE.out hb).1)
  obtain ⟨V5, hV5⟩ : ∃ V : World, w5.alloc (memObj M ca cac cs csc) = V := ⟨_, rfl⟩
  have hb5 : Below w5.heap.size w5 V5 := by rw [← hV5]; exact mem_alloc _ _
  have HXO : Hid (V5.heap[w5.heap.size]? = some (memObj M ca cac cs csc)) := by show _ = _; rw [← hV5]; exact mem_new _ _
  have HW5 := Lib.hid ((own_words hown5 HWI.out).2.2.below hb5)
  have HU5 := Lib.hid (own_words hown5 HWI.out).2.1
  have HMA5 : Hid (MemAt V5 M ca cs) := (HMO4.out.memAt (by have := HSM.out.2.1.1; omega) (by have := HSM.out.1.1; omega) (fun r hr => by have := (HSM.out.2.1.2 r hr).1; omega) HWA.out HWS.out).below (mem_then hB5 hb5)
  have HB5 : Hid (Below W2.heap.size W2 V5) := mem_then HB2.out (mem_then HB4.out (mem_then hB5 hb5))
  clear hown5 hgrow5 hB5 hb5 HMADE HSRC HX4B HMO4 HB4 HI1
  go_upto_region 6 with fail
  clear hX4 hV5
  obtain ⟨hx1, _, hp5, _, _, hg5, _⟩ := HK.out V5 HB5.out
  obtain ⟨x0, x1⟩ := mem_two hx1
  obtain ⟨o0, o1⟩ := mem_two HXO.out
  have HJ := Lib.hid (job_any p task M inp F V5 sa ta sc tc ca cs cac csc ua5 uc5 hp5 HMA5.out HW5.out hg5 HT.out (by omega) (by omega))
  clear hx1 hp5 hg5
  go_wp2_with fail
  clear x0 x1 o0 o1
  refine HJ.out.mono ?_
  rintro e w6 ⟨aa, ac, ra, rc, oa, oc, rfl, hra, hB6, _, _⟩
  obtain ⟨R, hR⟩ : ∃ R, jobP p task M inp F = R := ⟨_, rfl⟩
  rw [hR] at hra ⊢
  have HR := Lib.hid hR
  obtain ⟨V6, hV6⟩ : ∃ V : World, w6.alloc (Res.obj R aa ac ra rc oa oc) = V := ⟨_, rfl⟩
  have hb6 : Below w6.heap.size w6 V6 := by rw [← hV6]; exact mem_alloc _ _
  have HXR : Hid (V6.heap[w6.heap.size]? = some (Res.obj R aa ac ra rc oa oc)) := by show _ = _; rw [← hV6]; exact mem_new _ _
  have HRA : Hid (ResAt V6 R aa ra oa) := ⟨hra.mem.below hb6, hra.out.below hb6⟩
  have HB56 := Lib.hid (mem_then hB6 hb6)
  clear HJ hR hra hB6 hb6
  go_upto_region 7 with fail
  clear hV6
  obtain ⟨_, hx2, _, hm6, hi6, _, _⟩ := HK.out V6 (mem_then HB5.out HB56.out)
  obtain ⟨y0, y1⟩ := mem_two hx2
  obtain ⟨o0, o1⟩ := mem_two (mem_keep HXO.out HB56.out)
  have HEQ := Lib.hid (equal_any M M V6 ca cs ma ms cac csc mac msc (HMA5.out.below HB56.out) hm6)
  rw [eqN_self] at HEQ
  have HI6 := Lib.hid hi6
  clear hx2 hm6 hi6
  go_wp2_with fail
  clear y0 y1 o0 o1
  refine HEQ.out.mono ?_
  rintro e w7 ⟨rfl, hB7⟩
  obtain ⟨Y1, hY1⟩ : ∃ V : World, w7.alloc (.cells #[.slice ua5 inp.length uc5] 30) = V := ⟨_, rfl⟩
  obtain ⟨Y2, hY2⟩ : ∃ V : World, Y1.alloc (.cells #[.slice ia inp.length ic] 30) = V := ⟨_, rfl⟩
  have hb1 : Below w7.heap.size w7 Y1 := by rw [← hY1]; exact mem_alloc _ _
  have hb2 : Below Y1.heap.size Y1 Y2 := by rw [← hY2]; exact mem_alloc _ _
  have hc1 : Y2.heap[w7.heap.size]? = some (.cells #[.slice ua5 inp.length uc5] 30) := mem_keep (by rw [← hY1]; exact mem_new _ _) hb2
  have hc2 : Y2.heap[Y1.heap.size]? = some (.cells #[.slice ia inp.length ic] 30) := by rw [← hY2]; exact mem_new _ _
  have HB67 := Lib.hid (mem_then hB7 (mem_then hb1 hb2))
  have hone : ∀ {b : Nat} {a : Option Addr} {c : Nat}, Y2.heap[b]? = some (.cells #[.slice a inp.length c] 30) → WordsAt Y2 a inp → (a = none → c = 0) → ContAt Y2 (some ⟨b, 0, none⟩) [inp] := fun {b a c} hb hw h0 => by
    refine ⟨by simp, .inr ⟨b, 0, rfl, fun k r hk => ?_⟩⟩
    have hkl := (List.getElem?_eq_some_iff.1 hk).1
    have : k = 0 := by simp at hkl; omega
    subst this
    cases hk
    exact ⟨a, c, mem_cell hb 0, h0, hw⟩
  have HC1 := Lib.hid (hone hc1 (HW5.out.below (mem_then HB56.out HB67.out)) HU5.out)
  have HC2 := Lib.hid (hone hc2 (HI6.out.below HB67.out) HIC.out)
  have HLI := Lib.hid (lists_any [inp] [inp] (some ⟨w7.heap.size, 0, none⟩) (some ⟨Y1.heap.size, 0, none⟩) 1 1 Y2 HC1.out HC2.out)
  have hdd : decide ([inp] = [inp]) = true := decide_eq_true rfl
  rw [hdd] at HLI
  clear HEQ hB7 hb1 hb2 hc1 hc2 hone HC1 HC2 hdd
  go_wp2_with fail
  clear hY1 hY2
  refine HLI.out.mono ?_
  rintro e w8 ⟨rfl, hB8⟩
  have HB8 : Hid (Below V6.heap.size V6 w8) := mem_then HB67.out hB8
  clear HLI hB8
  go_upto_region 23 with fail
  obtain ⟨V9, hV9⟩ : ∃ V : World, w8.alloc (.cells #[.slice none 0 0, .slice none 0 0, .slice none 0 0, .int .i64 0, .int .i64 0, .int .i64 0] 37) = V := ⟨_, rfl⟩
  rw [hV9]
  have HB9 : Hid (Below w8.heap.size w8 V9) := by show Below _ _ _; rw [← hV9]; exact mem_alloc _ _
  have HXZ : Hid (V9.heap[w8.heap.size]? = some (.cells #[.slice none 0 0, .slice none 0 0, .slice none 0 0, .int .i64 0, .int .i64 0, .int .i64 0] 37)) := by show _ = _; rw [← hV9]; exact mem_new _ _
  have HK8 : Hid (∀ w', Below w8.heap.size w8 w' → w'.heap[w.heap.size]? = some (prgObj p sa sc ta tc) ∧ w'.heap[W.heap.size]? = some (memObj M ma mac ms msc) ∧ PrgAt w' p sa ta ∧ MemAt w' M ma ms ∧ WordsAt w' ia inp ∧ Below w.heap.size w w' ∧ w'.heap[w6.heap.size]? = some (Res.obj R aa ac ra rc oa oc) ∧ ResAt w' R aa ra oa) := fun w' hw => by
    have hb := mem_then HB8.out hw
    obtain ⟨k1, k2, k3, k4, k5, _, k7⟩ := HK.out w' (mem_then HB5.out (mem_then HB56.out hb))
    exact ⟨k1, k2, k3, k4, k5, k7, mem_keep HXR.out hb, ⟨HRA.out.mem.below hb, HRA.out.out.below hb⟩⟩
  clear hV9
  obtain ⟨hx1, _, hp9, _, _, _, _⟩ := HK8.out V9 HB9.out
  obtain ⟨x0, x1⟩ := mem_two hx1
  have HOK := Lib.hid (ok15_any p V9 sa ta sc tc hp9 (HK.out V9 (mem_then HB5.out (mem_then HB56.out (mem_then HB8.out HB9.out)))).2.2.2.2.2.1)
  clear hx1 hp9
  go_wp2_with fail
  clear x0 x1
  refine HOK.out.mono ?_
  rintro e w10 ⟨rfl, hB10⟩
  have HBW := Lib.hid hB10
  clear HOK hB10
  cases hok : okP p with
  | false =>
    have hz := (mem_keep HXZ.out HBW.out)
    obtain ⟨V, hV⟩ : ∃ V : World, w10.setCell ⟨w8.heap.size, 5, none⟩ (.int .i64 3) = V := ⟨_, rfl⟩
    have HXE : Hid (V.heap[w8.heap.size]? = some (.cells #[.slice none 0 0, .slice none 0 0, .slice none 0 0, .int .i64 0, .int .i64 0, .int .i64 3] 37)) := by show _ = _; rw [← hV, mem_set hz]; rfl
    have HBE : Hid (Below w8.heap.size w8 V) := by show Below _ _ _; rw [← hV]; exact (mem_then HB9.out HBW.out).setCell (p := ⟨w8.heap.size, 5, none⟩) (Nat.le_refl _) _
    have HRE : Hid (R = Res.fail 3) := by show _ = _; rw [← HR.out]; exact jobP_3 hok
    have HK9 := Lib.hid (HK8.out V HBE.out)
    have c5 := mem_cell hz 5
    have f5 := mem_free hz 5
    simp only [List.getElem?_toArray, List.getElem?_cons_zero, List.getElem?_cons_succ] at c5
    clear hz hok
    go_upto_region 29 with fail
    try rw [hV]
    clear c5 f5 hV
    obtain ⟨r0, r1, r2, r3, r4, r5⟩ := res_cells HK9.out.2.2.2.2.2.2.1
    obtain ⟨z0, z1, z2, z3, z4, z5⟩ := res_cells HXE.out
    have HSM9 := Lib.hid (same_any R (Res.fail 3) true V aa ra oa none none none ac rc oc 0 0 0 HK9.out.2.2.2.2.2.2.2 fail_at)
    have hss : sameP R (Res.fail 3) true = true := by rw [HRE.out]; exact sameP_self _ _
    rw [hss] at HSM9
    clear hss
    go_wp2_with fail
    clear r0 r1 r2 r3 r4 r5 z0 z1 z2 z3 z4 z5
    refine HSM9.out.mono ?_
    rintro e0 w19 ⟨rfl, hB19⟩
    have HBF : Hid (Below w.heap.size w w19) := mem_then HK9.out.2.2.2.2.2.1 hB19
    clear hB19
    go_wp2_with fail
    go_ret
    exact ⟨rfl, HBF.out⟩

  | true =>
  have HOKP := Lib.hid hok
  clear hok
  obtain ⟨hx1, _, _, _, _, _, _⟩ := HK8.out w10 (mem_then HB9.out HBW.out)
  obtain ⟨x0, x1⟩ := mem_two hx1
  clear hx1
  by_cases htn : task < 0 ∨ (p.tasks.length : Int) ≤ task
  · skip
    have hsp : task < 0 ∨ (¬ task < 0 ∧ (p.tasks.length : Int) ≤ task) := by omega
    have HRP : Hid (jobP p task M inp F = .fail 2) := jobP_2 HOKP.out htn
    clear htn
    rcases hsp with q1 | ⟨q1, q2⟩
    all_goals
      have hz := (mem_keep HXZ.out HBW.out)
      obtain ⟨V, hV⟩ : ∃ V : World, w10.setCell ⟨w8.heap.size, 5, none⟩ (.int .i64 2) = V := ⟨_, rfl⟩
      have HXE : Hid (V.heap[w8.heap.size]? = some (.cells #[.slice none 0 0, .slice none 0 0, .slice none 0 0, .int .i64 0, .int .i64 0, .int .i64 2] 37)) := by show _ = _; rw [← hV, mem_set hz]; rfl
      have HBE : Hid (Below w8.heap.size w8 V) := by show Below _ _ _; rw [← hV]; exact (mem_then HB9.out HBW.out).setCell (p := ⟨w8.heap.size, 5, none⟩) (Nat.le_refl _) _
      have HRE : Hid (R = Res.fail 2) := by show _ = _; rw [← HR.out]; exact HRP.out
      have HK9 := Lib.hid (HK8.out V HBE.out)
      have c5 := mem_cell hz 5
      have f5 := mem_free hz 5
      simp only [List.getElem?_toArray, List.getElem?_cons_zero, List.getElem?_cons_succ] at c5
      clear hz
      go_upto_region 29 with fail
      try rw [hV]
      clear c5 f5 hV
      obtain ⟨r0, r1, r2, r3, r4, r5⟩ := res_cells HK9.out.2.2.2.2.2.2.1
      obtain ⟨z0, z1, z2, z3, z4, z5⟩ := res_cells HXE.out
      have HSM9 := Lib.hid (same_any R (Res.fail 2) true V aa ra oa none none none ac rc oc 0 0 0 HK9.out.2.2.2.2.2.2.2 fail_at)
      have hss : sameP R (Res.fail 2) true = true := by rw [HRE.out]; exact sameP_self _ _
      rw [hss] at HSM9
      clear hss
      go_wp2_with fail
      clear r0 r1 r2 r3 r4 r5 z0 z1 z2 z3 z4 z5
      refine HSM9.out.mono ?_
      rintro e0 w19 ⟨rfl, hB19⟩
      have HBF : Hid (Below w.heap.size w w19) := mem_then HK9.out.2.2.2.2.2.1 hB19
      clear hB19
      go_wp2_with fail
      go_ret
      exact ⟨rfl, HBF.out⟩

  have htn1 : ¬ task < 0 := by omega
  have htn2 : ¬ (p.tasks.length : Int) ≤ task := by omega
  have HTN := Lib.hid htn
  clear htn
  obtain ⟨_, hx2, hp10, hm10, _, _, _⟩ := HK8.out w10 (mem_then HB9.out HBW.out)
  obtain ⟨y0, y1⟩ := mem_two hx2
  have HRF := Lib.hid (refFits_any p M w10 sa ta sc tc ma ms mac msc hp10 hm10)
  clear hx2 hp10 hm10
  go_wp2_with fail
  clear x0 x1 y0 y1
  refine HRF.out.mono ?_
  rintro e w11 ⟨rfl, hB11⟩
  have HBW := Lib.hid (mem_then HBW.out hB11)
  clear HRF hB11
  cases hrf : refFits p M with
  | false =>
    have HRP : Hid (jobP p task M inp F = .fail 14) := jobP_14 HOKP.out HTN.out hrf
    have hz := (mem_keep HXZ.out HBW.out)
    obtain ⟨V, hV⟩ : ∃ V : World, w11.setCell ⟨w8.heap.size, 5, none⟩ (.int .i64 14) = V := ⟨_, rfl⟩
    have HXE : Hid (V.heap[w8.heap.size]? = some (.cells #[.slice none 0 0, .slice none 0 0, .slice none 0 0, .int .i64 0, .int .i64 0, .int .i64 14] 37)) := by show _ = _; rw [← hV, mem_set hz]; rfl
    have HBE : Hid (Below w8.heap.size w8 V) := by show Below _ _ _; rw [← hV]; exact (mem_then HB9.out HBW.out).setCell (p := ⟨w8.heap.size, 5, none⟩) (Nat.le_refl _) _
    have HRE : Hid (R = Res.fail 14) := by show _ = _; rw [← HR.out]; exact HRP.out
    have HK9 := Lib.hid (HK8.out V HBE.out)
    have c5 := mem_cell hz 5
    have f5 := mem_free hz 5
    simp only [List.getElem?_toArray, List.getElem?_cons_zero, List.getElem?_cons_succ] at c5
    clear hz hrf
    go_upto_region 29 with fail
    try rw [hV]
    clear c5 f5 hV
    obtain ⟨r0, r1, r2, r3, r4, r5⟩ := res_cells HK9.out.2.2.2.2.2.2.1
    obtain ⟨z0, z1, z2, z3, z4, z5⟩ := res_cells HXE.out
    have HSM9 := Lib.hid (same_any R (Res.fail 14) true V aa ra oa none none none ac rc oc 0 0 0 HK9.out.2.2.2.2.2.2.2 fail_at)
    have hss : sameP R (Res.fail 14) true = true := by rw [HRE.out]; exact sameP_self _ _
    rw [hss] at HSM9
    clear hss
    go_wp2_with fail
    clear r0 r1 r2 r3 r4 r5 z0 z1 z2 z3 z4 z5
    refine HSM9.out.mono ?_
    rintro e0 w19 ⟨rfl, hB19⟩
    have HBF : Hid (Below w.heap.size w w19) := mem_then HK9.out.2.2.2.2.2.1 hB19
    clear hB19
    go_wp2_with fail
    go_ret
    exact ⟨rfl, HBF.out⟩

  | true =>
  obtain ⟨i, rfl⟩ : ∃ i : Nat, task = (i : Int) := ⟨task.toNat, by omega⟩
  have hil2 : i < p.tasks.length := by omega
  obtain ⟨t, ht⟩ : ∃ t, p.tasks.getD i Tsk.none = t := ⟨_, rfl⟩
  obtain ⟨L, hrun⟩ := run_facts ht hil2 HOKP.out hrf
  obtain ⟨F0, hF0⟩ : ∃ F0, (if F < 0 then 0 else F) = F0 := ⟨_, rfl⟩
  have HRP : Hid (jobP p (i : Int) M inp F = runR p i M (t.body.ex F0 inp (jobS p i M))) := by show _ = _; rw [jobP_ok ht hil2 HOKP.out hrf, hF0]
  have HRUN := Lib.hid hrun
  have HTT := Lib.hid ht
  have HF0 := Lib.hid hF0
  clear hrf ht hrun hF0 htn1 htn2 HTN
  have HBL : Hid (Below w8.heap.size w8 w11) := mem_then HB9.out HBW.out
  have HXZ1 := Lib.hid (mem_keep HXZ.out HBW.out)
  obtain ⟨hx1, hx2, hp11, hm11, hi11, _, _, _⟩ := HK8.out w11 HBL.out
  obtain ⟨mb, mo, hmae, la, lc, hlcell, _, hlcont⟩ := hm11.1.row HRUN.out.at_
  subst hmae
  have HLC : Hid (∀ w', Below w11.heap.size w11 w' → w'.cell? ⟨mb, mo + i, none⟩ = some (.slice la L.length lc)) := fun w' h => cell_below h hlcell
  have hal2 : (i : Int) < (M.arrays.length : Int) := by
    have h := (List.getElem?_eq_some_iff.1 HRUN.out.at_).1
    omega
  have hi00 : (0 : Int) ≤ (i : Int) := by omega
  obtain ⟨⟨r1, er⟩, hr⟩ : ∃ r, t.body.ex F0 inp (st0 (jobC p i L M.shared)) = r := ⟨_, rfl⟩
  have HRR : Hid (R = runR p i M (r1, er)) := by show _ = _; rw [← HR.out, HRP.out, ← HRUN.out.st, hr]
  have HCJ : Hid (∀ V, Below w11.heap.size w11 V → Calls Tryd.prog 19 #[p.val sa sc ta tc, .int .i64 (i : Int), .slice la L.length lc, .slice ms M.shared.length msc, .slice ia inp.length ic, .int .i64 F] V (JobR V F0 inp (jobC p i L M.shared) ia ic (r1, er))) := fun V hV => by
    rw [← hr]
    have hs := HRUN.out.small
    exact job16_any p i t L M.shared inp F F0 V sa ta sc tc la ms lc msc ia ic HTT.out (hp11.below hV) hil2 (hlcont.below hV) (hm11.2.below hV) (hi11.below hV) HRUN.out.lenA HRUN.out.lenS (by omega) (by omega) (by omega)
      (fun r hr => by have := (HSM.out.2.1.2 L (List.mem_of_getElem? HRUN.out.at_)).2 r hr; omega) (fun r hr => by have := HSM.out.1.2 r hr; omega) (by omega) (by omega) HF0.out.symm HRUN.out.vld HRUN.out.dec (by omega)
  have HFB : Hid (0 ≤ F0 ∧ F0 ≤ 3000) := by
    show _ ∧ _
    rw [← HF0.out]
    split <;> omega
  clear hx1 hx2 hp11 hm11 hi11 hlcell hlcont hr
  go_upto_region 10 with fail
  refine cut_run16 (EndV 54 12 15 (fun v w' => ∃ Bx b15 cs' y ca' cc' oa' oc', v = .pointer (some ⟨b15, 0, none⟩) ∧ (w11.heap.size ≤ b15 ∧ w11.heap.size ≤ Bx) ∧ w'.heap[b15]? = some (envObj ca' cs'.length cc' ia inp.length ic oa' r1.out.length oc' (r1.rd : Int) (r1.st : Int) F0 er) ∧ celN cs' = celN (jobC p i L M.shared) ∧ (CelsOwn Bx w' ca' cs' y ∧ r1.A = celA cs' ∧ w'.ownsRow Bx 80 2 (.slice oa' r1.out.length oc') r1.out.length (outCells r1.out)) ∧ Below w11.heap.size w11 w')) ?_ ?_
  · skip
    have hD0 : Below w11.heap.size w11 (World.drew w11) := (Below.refl _ _).drew
    refine wp_region_z 13 (S := fun w' => Below w11.heap.size w11 w') (by kernel_rfl) hD0 (fun hHeld => ?_)
    generalize hwd : World.drew w11 = V0 at hHeld hD0 ⊢
    clear hwd
    have HD0 := Lib.hid hD0
    clear hD0
    refine zT 0 (p.val sa sc ta tc) rfl (hy := ?_) (h := ?_)
    · intro w' hSw; obtain ⟨z0, z1⟩ := mem_two (HK8.out _ (mem_then HBL.out hSw)).1; go_simp
    (try simp only [Act.put, pA, pB, pD, pE, pF])
    refine zT 1 (.int .i64 (i : Int)) rfl (hy := ?_) (h := ?_)
    · intro w' hSw; go_simp
    (try simp only [Act.put, pA, pB, pC, pD, pE, pF])
    refine zT 2 (.pointer (some ⟨W.heap.size, 0, none⟩)) rfl (hy := ?_) (h := ?_)
    · intro w' hSw; go_simp
    (try simp only [Act.put, pA, pB, pC, pD, pE, pF])
    refine zT 3 (.slice (some ⟨mb, mo, none⟩) M.arrays.length mac) rfl (hy := ?_) (h := ?_)
    · intro w' hSw; obtain ⟨z0, z1⟩ := mem_two (HK8.out _ (mem_then HBL.out hSw)).2.1; go_simp
    (try simp only [Act.put, pA, pB, pC, pD, pE, pF])
    refine zT 4 (.int .i64 (i : Int)) rfl (hy := ?_) (h := ?_)
    · intro w' hSw; go_simp
    (try simp only [Act.put, pA, pB, pC, pD, pE, pF])
    refine zT 5 (.pointer (some ⟨mb, mo + i, none⟩)) rfl (hy := ?_) (h := ?_)
    · intro w' hSw; go_simp
    (try simp only [Act.put, pA, pB, pC, pD, pE, pF])
    refine zT 6 (.slice la L.length lc) rfl (hy := ?_) (h := ?_)
    · intro w' hSw; have z0 := HLC.out _ hSw; go_simp
    (try simp only [Act.put, pA, pB, pC, pD, pE, pF])
    refine zT 7 (.pointer (some ⟨W.heap.size, 1, none⟩)) rfl (hy := ?_) (h := ?_)
    · intro w' hSw; go_simp
    (try simp only [Act.put, pA, pB, pC, pD, pE, pF])
    refine zT 8 (.slice ms M.shared.length msc) rfl (hy := ?_) (h := ?_)
    · intro w' hSw; obtain ⟨z0, z1⟩ := mem_two (HK8.out _ (mem_then HBL.out hSw)).2.1; go_simp
    (try simp only [Act.put, pA, pB, pC, pD, pE, pF])
    refine zT 9 (.slice ia inp.length ic) rfl (hy := ?_) (h := ?_)
    · intro w' hSw; go_simp
    (try simp only [Act.put, pA, pB, pC, pD, pE, pF])
    refine zT 10 (.int .i64 F) rfl (hy := ?_) (h := ?_)
    · intro w' hSw; go_simp
    (try simp only [Act.put, pA, pB, pC, pD, pE, pF])
    refine wpAnyZ_ready (rs := [11, 12]) (by kernel_rfl) (by simp) (AllReadyZ.cons rfl (fun K hK => ?_) (AllReadyZ.cons rfl (fun K hK => ?_) AllReadyZ.nil))
    · go_simp
      refine (HCJ.out V0 HD0.out).mono ?_
      rintro e E1 ⟨cs', y, ca', cc', oa', oc', rfl, hnc, hst, hb⟩
      have HNC := Lib.hid hnc
      have HS1 := Lib.hid hst
      have HBE := Lib.hid (mem_then HD0.out hb)
      have HVE : Hid (V0.heap.size ≤ E1.heap.size) := hb.size
      clear hnc hst hb
      refine hK.out _ _ (HBE.out) (fun hHeld => ?_)
      clear hK K
      rename_i hOld
      clear hOld
      (try simp only [Act.put, pA, pB, pC, pD, pE, pF])
      refine zR 12 rfl (fun K hK => ?_)
      go_simp
      obtain ⟨E2, hE2⟩ : ∃ W : World, E1.alloc (envObj none 0 0 none 0 0 none 0 0 0 0 0 0) = W := ⟨_, rfl⟩
      rw [hE2]
      have hb2 : Below E1.heap.size E1 E2 := by rw [← hE2]; exact mem_alloc _ _
      have HXB : Hid (E2.heap[E1.heap.size]? = some (envObj none 0 0 none 0 0 none 0 0 0 0 0 0)) := by show _ = _; rw [← hE2]; exact mem_new _ _
      have HB2' := Lib.hid (mem_then HBE.out hb2)
      have HLB : Hid (w11.heap.size ≤ E1.heap.size ∧ w11.heap.size ≤ V0.heap.size ∧ V0.heap.size ≤ E1.heap.size) := ⟨HBE.out.size, HD0.out.size, HVE.out⟩
      have HSB := Lib.hid (HS1.out.below hb2 HLB.out.2.2)
      clear hE2 hb2
      refine hK.out _ _ (HB2'.out) (fun hHeld => ?_)
      clear hK K
      rename_i hOld
      clear hOld
      (try simp only [Act.put, pA, pB, pC, pD, pE, pF])
      obtain ⟨G, hG⟩ : ∃ G, set7 E2 E1.heap.size (.slice ca' cs'.length cc') (.slice ia inp.length ic) (.slice oa' r1.out.length oc') (.int .i64 (r1.rd : Int)) (.int .i64 (r1.st : Int)) (.int .i64 F0) (.int .i64 er) = G := ⟨_, rfl⟩
      have HXG : Hid (G.heap[E1.heap.size]? = some (envObj ca' cs'.length cc' ia inp.length ic oa' r1.out.length oc' (r1.rd : Int) (r1.st : Int) F0 er)) := by show _ = _; rw [← hG]; exact set7_at _ _ _ _ _ _ _ HXB.out
      have HSG : Hid (CelsOwn V0.heap.size G ca' cs' y ∧ r1.A = celA cs' ∧ G.ownsRow V0.heap.size 80 2 (.slice oa' r1.out.length oc') r1.out.length (outCells r1.out)) := by
        have hf : ∀ b, b ≠ E1.heap.size → G.heap[b]? = E2.heap[b]? := fun b hb => by rw [← hG]; exact set7_far hb
        exact ⟨HSB.out.own.off HXB.out hf, HSB.out.A, own_keep HSB.out.out (fun b hb _ => hf b (fun e => own_other HSB.out.out HXB.out (by decide) (by rw [hb, e])))⟩
      have HBG : Hid (Below w11.heap.size w11 G) := by show Below _ _ _; rw [← hG]; exact set7_below HB2'.out (by have := HLB.out; omega)
      obtain ⟨y0, y1, y2, y3, y4, y5, y6⟩ := env_cells HXB.out
      obtain ⟨q0, q1, q2, q3, q4, q5, q6⟩ := env_free HXB.out
      unfold set7 at hG
      refine wpAnyZ_ready (rs := [13]) (by kernel_rfl) (by simp) (AllReadyZ.last rfl (by decide) (fun K hK => ?_) AllReadyZ.nil)
      go_simp
      refine hK.out _ _ ?_
      clear hK K
      (try simp only [Act.put, pA, pB, pC, pD, pE, pF])
      try rw [hG]
      clear y0 y1 y2 y3 y4 y5 y6 q0 q1 q2 q3 q4 q5 q6 hHeld hG
      refine wpAnyZ_done (by kernel_rfl) ?_ _
      exact ⟨[_, _, _, _, _, _, _, _, _, _, _, _], .pointer (some ⟨E1.heap.size, 0, none⟩), rfl, (by simp only [putNine, List.setIfInBounds_toArray, List.set_cons_zero, List.set_cons_succ]; rfl), V0.heap.size, E1.heap.size, cs', y, ca', cc', oa', oc', rfl, ⟨HLB.out.1, HLB.out.2.1⟩, HXG.out, HNC.out, HSG.out, HBG.out⟩

    · go_simp
      obtain ⟨V1, hV1⟩ : ∃ W : World, V0.alloc (envObj none 0 0 none 0 0 none 0 0 0 0 0 0) = W := ⟨_, rfl⟩
      rw [hV1]
      have hb1 : Below V0.heap.size V0 V1 := by rw [← hV1]; exact mem_alloc _ _
      have HXB0 : Hid (V1.heap[V0.heap.size]? = some (envObj none 0 0 none 0 0 none 0 0 0 0 0 0)) := by show _ = _; rw [← hV1]; exact mem_new _ _
      have HBV := Lib.hid (mem_then HD0.out hb1)
      clear hV1 hb1
      refine hK.out _ _ (HBV.out) (fun hHeld => ?_)
      clear hK K
      rename_i hOld
      clear hOld
      (try simp only [Act.put, pA, pB, pC, pD, pE, pF])
      refine zR 11 rfl (fun K hK => ?_)
      go_simp
      refine (HCJ.out V1 HBV.out).mono ?_
      rintro e E1 ⟨cs', y, ca', cc', oa', oc', rfl, hnc, hst, hb⟩
      have HNC := Lib.hid hnc
      have HSB := Lib.hid hst
      have HBE := Lib.hid (mem_then HBV.out hb)
      have HXB := Lib.hid (mem_keep HXB0.out hb)
      have HLB : Hid (w11.heap.size ≤ V0.heap.size ∧ w11.heap.size ≤ V1.heap.size) := ⟨HD0.out.size, HBV.out.size⟩
      clear hnc hst hb HXB0
      refine hK.out _ _ (HBE.out) (fun hHeld => ?_)
      clear hK K
      rename_i hOld
      clear hOld
      (try simp only [Act.put, pA, pB, pC, pD, pE, pF])
      obtain ⟨G, hG⟩ : ∃ G, set7 E1 V0.heap.size (.slice ca' cs'.length cc') (.slice ia inp.length ic) (.slice oa' r1.out.length oc') (.int .i64 (r1.rd : Int)) (.int .i64 (r1.st : Int)) (.int .i64 F0) (.int .i64 er) = G := ⟨_, rfl⟩
      have HXG : Hid (G.heap[V0.heap.size]? = some (envObj ca' cs'.length cc' ia inp.length ic oa' r1.out.length oc' (r1.rd : Int) (r1.st : Int) F0 er)) := by show _ = _; rw [← hG]; exact set7_at _ _ _ _ _ _ _ HXB.out
      have HSG : Hid (CelsOwn V1.heap.size G ca' cs' y ∧ r1.A = celA cs' ∧ G.ownsRow V1.heap.size 80 2 (.slice oa' r1.out.length oc') r1.out.length (outCells r1.out)) := by
        have hf : ∀ b, b ≠ V0.heap.size → G.heap[b]? = E1.heap[b]? := fun b hb => by rw [← hG]; exact set7_far hb
        exact ⟨HSB.out.own.off HXB.out hf, HSB.out.A, own_keep HSB.out.out (fun b hb _ => hf b (fun e => own_other HSB.out.out HXB.out (by decide) (by rw [hb, e])))⟩
      have HBG : Hid (Below w11.heap.size w11 G) := by show Below _ _ _; rw [← hG]; exact set7_below HBE.out (by have := HLB.out; omega)
      obtain ⟨y0, y1, y2, y3, y4, y5, y6⟩ := env_cells HXB.out
      obtain ⟨q0, q1, q2, q3, q4, q5, q6⟩ := env_free HXB.out
      unfold set7 at hG
      refine wpAnyZ_ready (rs := [13]) (by kernel_rfl) (by simp) (AllReadyZ.last rfl (by decide) (fun K hK => ?_) AllReadyZ.nil)
      go_simp
      refine hK.out _ _ ?_
      clear hK K
      (try simp only [Act.put, pA, pB, pC, pD, pE, pF])
      try rw [hG]
      clear y0 y1 y2 y3 y4 y5 y6 q0 q1 q2 q3 q4 q5 q6 hHeld hG
      refine wpAnyZ_done (by kernel_rfl) ?_ _
      exact ⟨[_, _, _, _, _, _, _, _, _, _, _, _], .pointer (some ⟨V0.heap.size, 0, none⟩), rfl, (by simp only [putNine, List.setIfInBounds_toArray, List.set_cons_zero, List.set_cons_succ]; rfl), V1.heap.size, V0.heap.size, cs', y, ca', cc', oa', oc', rfl, HLB.out, HXG.out, HNC.out, HSG.out, HBG.out⟩

  rintro a' E ⟨l, v, hl12, rfl, Bx, b15, cs', y, ca', cc', oa', oc', rfl, hlb, hxe, hnc, hst, hbe⟩
  obtain ⟨l0, l1, l2, l3, l4, l5, l6, l7, l8, l9, l10, l11, rfl⟩ := list12_16 hl12
  simp only [putNine, List.setIfInBounds_toArray, List.set_cons_zero, List.set_cons_succ]
  have HLB := Lib.hid hlb
  have HXE : Hid (E.heap[b15]? = some (envObj ca' cs'.length cc' ia inp.length ic oa' r1.out.length oc' (r1.rd : Int) (r1.st : Int) F0 er)) := hxe
  have HNC := Lib.hid hnc
  have HST := Lib.hid hst
  have HBE := Lib.hid hbe
  have HBLE := Lib.hid (mem_then HBL.out hbe)
  have HXZE := Lib.hid (mem_keep HXZ1.out hbe)
  have HW8 : Hid (w8.heap.size < w11.heap.size) := mem_lt HXZ1.out
  clear hl12 hlb hxe hnc hst hbe HCJ HLC
  -- the expected memory
  have HCLN : Hid (∀ V, Below E.heap.size E V → Calls Tryd.prog 13 #[M.val (some ⟨mb, mo, none⟩) mac ms msc] V fun e w' => ∃ aa ac sa sc vs us ss N1, e = .returned (M.val aa ac sa sc) ∧ MOwn V.heap.size N1 w' M (.slice aa M.arrays.length ac) vs us (.slice sa M.shared.length sc) ss ∧ Below V.heap.size V w') := fun V hV =>
    clone16_any M V (some ⟨mb, mo, none⟩) ms mac msc (HK8.out V (mem_then HBLE.out hV)).2.2.2.1 ⟨by have := HSM.out.1.1; omega, fun r hr => by have := HSM.out.1.2 r hr; omega⟩ ⟨by have := HSM.out.2.1.1; omega, fun t ht => ⟨by have := (HSM.out.2.1.2 t ht).1; omega, fun r hr => by have := (HSM.out.2.1.2 t ht).2 r hr; omega⟩⟩
  go_upto_region 11 with fail
  have hD0 : Below E.heap.size E (World.drew E) := (Below.refl _ _).drew
  refine wp_region_z 11 (S := fun w' => Below E.heap.size E w') (by kernel_rfl) hD0 (fun hHeld => ?_)
  generalize hwd : World.drew E = V0 at hHeld hD0 ⊢
  clear hwd
  have HD0 := Lib.hid hD0
  clear hD0
  refine zT 0 (M.val (some ⟨mb, mo, none⟩) mac ms msc) rfl (hy := ?_) (h := ?_)
  · intro w' hSw; obtain ⟨z0, z1⟩ := mem_two (HK8.out _ (mem_then HBLE.out hSw)).2.1; go_simp
  (try simp only [Act.put, pA, pB, pD, pE, pF])
  refine zT 2 (.pointer (some ⟨b15, 2, none⟩)) rfl (hy := ?_) (h := ?_)
  · intro w' hSw; go_simp
  (try simp only [Act.put, pA, pB, pC, pD, pE, pF])
  refine zT 3 (.slice oa' r1.out.length oc') rfl (hy := ?_) (h := ?_)
  · intro w' hSw; obtain ⟨z0, z1, z2, z3, z4, z5, z6⟩ := env_cells (mem_keep HXE.out hSw); go_simp
  (try simp only [Act.put, pA, pB, pC, pD, pE, pF])
  refine zT 4 (.pointer (some ⟨b15, 3, none⟩)) rfl (hy := ?_) (h := ?_)
  · intro w' hSw; go_simp
  (try simp only [Act.put, pA, pB, pC, pD, pE, pF])
  refine zT 5 (.int .i64 (r1.rd : Int)) rfl (hy := ?_) (h := ?_)
  · intro w' hSw; obtain ⟨z0, z1, z2, z3, z4, z5, z6⟩ := env_cells (mem_keep HXE.out hSw); go_simp
  (try simp only [Act.put, pA, pB, pC, pD, pE, pF])
  refine zT 6 (.pointer (some ⟨b15, 4, none⟩)) rfl (hy := ?_) (h := ?_)
  · intro w' hSw; go_simp
  (try simp only [Act.put, pA, pB, pC, pD, pE, pF])
  refine zT 7 (.int .i64 (r1.st : Int)) rfl (hy := ?_) (h := ?_)
  · intro w' hSw; obtain ⟨z0, z1, z2, z3, z4, z5, z6⟩ := env_cells (mem_keep HXE.out hSw); go_simp
  (try simp only [Act.put, pA, pB, pC, pD, pE, pF])
  refine zT 8 (.pointer (some ⟨b15, 6, none⟩)) rfl (hy := ?_) (h := ?_)
  · intro w' hSw; go_simp
  (try simp only [Act.put, pA, pB, pC, pD, pE, pF])
  refine zT 9 (.int .i64 er) rfl (hy := ?_) (h := ?_)
  · intro w' hSw; obtain ⟨z0, z1, z2, z3, z4, z5, z6⟩ := env_cells (mem_keep HXE.out hSw); go_simp
  (try simp only [Act.put, pA, pB, pC, pD, pE, pF])
  refine zR 1 rfl (fun K hK => ?_)
  go_simp
  refine (HCLN.out V0 HD0.out).mono ?_
  rintro e E1 ⟨ca2, cac2, sa2, sac2, vs2, us2, ss2, N2, rfl, hmo, hb⟩
  obtain ⟨ua, uc, uq, hwant⟩ := hmo.want HRUN.out.at_ HRUN.out.ones
  have HWT := Lib.hid hwant
  have HB1 := Lib.hid (mem_then HD0.out hb)
  have HXZ2 := Lib.hid (mem_keep HXZE.out (mem_then HD0.out hb))
  have HN2 : Hid (V0.heap.size ≤ N2) := hmo.le
  have HUQ : Hid (uq.length = L.length ∧ ss2.length = M.shared.length) := by
    have h1 := hwant.ui.1
    have h2 := hwant.sh.1
    show _ ∧ _
    omega
  clear hmo hb hwant HCLN
  refine hK.out _ _ (HB1.out) (fun hHeld => ?_)
  clear hK K
  rename_i hOld
  clear hOld
  (try simp only [Act.put, pA, pB, pC, pD, pE, pF])
  refine zT 10 (.agg #[.slice ca2 M.arrays.length cac2, .slice sa2 M.shared.length sac2, .slice oa' r1.out.length oc', .int .i64 (r1.rd : Int), .int .i64 (r1.st : Int), .int .i64 er]) rfl (hy := ?_) (h := ?_)
  · intro w' hSw; go_simp
  (try simp only [Act.put, pA, pB, pC, pD, pE, pF])
  obtain ⟨A2, hA2⟩ : ∃ G, set6 E1 w8.heap.size (.slice ca2 M.arrays.length cac2) (.slice sa2 M.shared.length sac2) (.slice oa' r1.out.length oc') (.int .i64 (r1.rd : Int)) (.int .i64 (r1.st : Int)) (.int .i64 er) = G := ⟨_, rfl⟩
  have HNE : Hid (b15 ≠ w8.heap.size) := by have := HLB.out.1; have := HW8.out; show b15 ≠ w8.heap.size; omega
  have HMV : Hid (∀ (k : Nat) arr t, E1.heap[k]? = some (.cells arr t) → t ≠ 37 → A2.heap[k]? = some (.cells arr t)) := fun k arr t hk ht => by
    rw [← hA2]
    refine (set6_far ?_).trans hk
    rintro rfl
    rw [HXZ2.out] at hk
    cases hk
    exact ht rfl
  obtain ⟨N0, hN0⟩ : ∃ n, V0.heap.size = n := ⟨_, rfl⟩
  have HN0 : Hid (w8.heap.size ≤ N0 ∧ N0 ≤ N2) := by
    have h1 := HBLE.out.size
    have h2 := HD0.out.size
    have h3 := HN2.out
    show _ ∧ _
    omega
  rw [hN0] at HWT
  have HINV : Hid (A2.heap[w8.heap.size]? = some (.cells #[.slice ca2 M.arrays.length cac2, .slice sa2 M.shared.length sac2, .slice oa' r1.out.length oc', .int .i64 (r1.rd : Int), .int .i64 (r1.st : Int), .int .i64 er] 37) ∧ A2.heap[b15]? = some (envObj ca' cs'.length cc' ia inp.length ic oa' r1.out.length oc' (r1.rd : Int) (r1.st : Int) F0 er) ∧ CelsOwn Bx A2 ca' cs' y ∧ A2.ownsRow Bx 80 2 (.slice oa' r1.out.length oc') r1.out.length (outCells r1.out) ∧ WantSt N2 N2 N0 A2 M i L ca2 ua sa2 cac2 uc sac2 vs2 (repV y 0 uq) (repV (fun k => y (t.arrays.length + k)) 0 ss2) ∧ Below w8.heap.size w8 A2) := by
    refine ⟨?_, HMV.out _ _ _ (mem_keep HXE.out HB1.out) (by decide), (HST.out.1.below HB1.out).moved (by decide) (by decide) HMV.out, own_move (own_below HST.out.2.2 HB1.out) (by decide) HMV.out, HWT.out.move (by decide) (by decide) (by decide) HMV.out, ?_⟩
    · rw [← hA2]; exact set6_at HXZ2.out
    · rw [← hA2]; exact set6_below (mem_then HBLE.out HB1.out) (Nat.le_refl _)
  have c0 := mem_cell HXZ2.out 0
  have c1 := mem_cell HXZ2.out 1
  have c2 := mem_cell HXZ2.out 2
  have c3 := mem_cell HXZ2.out 3
  have c4 := mem_cell HXZ2.out 4
  have c5 := mem_cell HXZ2.out 5
  have f0 := mem_free HXZ2.out 0
  have f1 := mem_free HXZ2.out 1
  have f2 := mem_free HXZ2.out 2
  have f3 := mem_free HXZ2.out 3
  have f4 := mem_free HXZ2.out 4
  have f5 := mem_free HXZ2.out 5
  simp only [List.getElem?_toArray, List.getElem?_cons_zero, List.getElem?_cons_succ] at c0 c1 c2 c3 c4 c5
  unfold set6 at hA2
  refine wpAnyZ_ready (rs := [11]) (by kernel_rfl) (by simp) (AllReadyZ.last rfl (by decide) (fun K hK => ?_) AllReadyZ.nil)
  go_simp
  refine hK.out _ _ ?_
  clear hK K
  (try simp only [Act.put, pA, pB, pC, pD, pE, pF])
  try rw [hA2]
  clear c0 c1 c2 c3 c4 c5 f0 f1 f2 f3 f4 f5 hHeld hA2 HWT HMV HXZ2 HXZE hN0 HN2
  refine wpAnyZ_done (by kernel_rfl) ?_ _
  have HFW := HST.out.1.fit
  have HAE := Lib.hid HST.out.2.1
  have HFIT := Lib.hid HFW
  clear HFW HST HXE HBE
  have HCLN' : Hid (cs'.length = t.arrays.length + p.shared.length + t.vars.length) := by
    have h := celN_len HNC.out
    show _ = _
    rw [h]
    have e : (jobC p i L M.shared).length = (celN (jobC p i L M.shared)).length := by unfold celN; rw [List.length_map]
    rw [e, jobC_N p i L M.shared HRUN.out.lenS (by rw [HTT.out]; exact HRUN.out.lenA), HTT.out]
    simp
    omega
  obtain ⟨hx1, _, hp2, _⟩ := HK8.out A2 HINV.out.2.2.2.2.2
  obtain ⟨x0, x1⟩ := mem_two hx1
  obtain ⟨tb, tf, q, hta, hc, _⟩ := hp2.2.2 i hil2
  subst hta
  rw [HTT.out] at hc
  obtain ⟨⟨g0, g1, g2, g3, g4, g5, g6, g7⟩, _⟩ := tsk_cells (Below.refl _ _) hc
  have hn4 : t.arrays.length ≤ 4 := HRUN.out.small.2.1
  have hs4 : p.shared.length ≤ 4 := HRUN.out.small.2.2.2
  have hcl4 : cs'.length ≤ 1000000 := by have := HRUN.out.small.1; rw [HCLN'.out]; omega
  clear hx1 hp2 hc
  go_upto_region 13 with fail
  clear x0 x1 g0 g1 g2 g3 g4 g5 g6 g7
  go_wp2_with fail
  go_loopw [85] (fun kv wr => ∃ j : Nat, j ≤ t.arrays.length ∧ kv = .int .i64 (j : Int) ∧ wr.heap[w8.heap.size]? = some (.cells #[.slice ca2 M.arrays.length cac2, .slice sa2 M.shared.length sac2, .slice oa' r1.out.length oc', .int .i64 (r1.rd : Int), .int .i64 (r1.st : Int), .int .i64 er] 37) ∧ wr.heap[b15]? = some (envObj ca' cs'.length cc' ia inp.length ic oa' r1.out.length oc' (r1.rd : Int) (r1.st : Int) F0 er) ∧ CelsOwn Bx wr ca' cs' y ∧ wr.ownsRow Bx 80 2 (.slice oa' r1.out.length oc') r1.out.length (outCells r1.out) ∧ WantSt N2 N2 N0 wr M i L ca2 ua sa2 cac2 uc sac2 vs2 (repV y j uq) (repV (fun k => y (t.arrays.length + k)) 0 ss2) ∧ Below w8.heap.size w8 wr) (fun kv _ => t.arrays.length - (intOf kv).toNat)
  case atStart => exact ⟨0, Nat.zero_le _, rfl, HINV.out⟩
  case round =>
    obtain ⟨j, hj, rfl, hinv⟩ := hrel
    have hj0 : (0 : Int) ≤ (j : Int) := by omega
    have HIN := Lib.hid hinv
    clear hinv
    by_cases hlt : j < t.arrays.length
    · skip
      have hlt2 : (j : Int) < (t.arrays.length : Int) := by omega
      have hjL : j < L.length := by have := HRUN.out.lenA; omega
      have hjL2 : (j : Int) < (L.length : Int) := by omega
      have hjc : j < cs'.length := by rw [HCLN'.out]; omega
      have hjc2 : (j : Int) < (cs'.length : Int) := by omega
      have hLf : L.length ≤ 9223372036854775807 := by have := HRUN.out.lenA; omega
      have hcf : cs'.length ≤ 9223372036854775807 := by omega
      obtain ⟨c, hcj⟩ : ∃ c, cs'[j]? = some c := ⟨_, List.getElem?_eq_getElem hjc⟩
      obtain ⟨ya, yc, hyj⟩ := own_val (HIN.out.2.2.1.own j c hcj)
      obtain ⟨cb, co, hcae, _, _, hcell⟩ := HIN.out.2.2.1.row j c hcj
      rw [hyj] at hcell
      subst hcae
      obtain ⟨ub, huae, hub, _⟩ := own_at HIN.out.2.2.2.2.1.ui (by omega)
      subst huae
      obtain ⟨vb, hvae, _, _⟩ := own_at HIN.out.2.2.2.2.1.av (by omega)
      subst hvae
      have hvc := own_get HIN.out.2.2.2.2.1.av HIN.out.2.2.2.2.1.hvi
      obtain ⟨u0, hu0⟩ : ∃ u0, wr.cell? ⟨ub, j, none⟩ = some u0 := ⟨_, own_get HIN.out.2.2.2.2.1.ui (List.getElem?_eq_getElem (by have := HIN.out.2.2.2.2.1.ui.1; omega))⟩
      have HRD : Hid (∀ w', Below wr.heap.size wr w' → w'.cell? ⟨cb, co + j * 3 + 2, none⟩ = some (.slice ya c.l.length yc) ∧ w'.cell? ⟨vb, i, none⟩ = some (.slice (some ⟨ub, 0, none⟩) L.length uc) ∧ w'.cell? ⟨ub, j, none⟩ = some u0) := fun w' hw => ⟨cell_stay hw hcell, cell_stay hw hvc, cell_stay hw hu0⟩
      have HUB : Hid (w8.heap.size ≤ ub) := by have := HN0.out; show _ ≤ _; omega
      have HYJ := Lib.hid hyj
      clear hcj hcell hvc hu0 hyj hub
      go_upto_region 16 with fail
      have hD0 : Below wr.heap.size wr (World.drew wr) := (Below.refl _ _).drew
      refine wp_region_z 14 (S := fun w' => Below wr.heap.size wr w') (by kernel_rfl) hD0 (fun hHeld => ?_)
      generalize hwd : World.drew wr = V0 at hHeld hD0 ⊢
      clear hwd
      have HD0 := Lib.hid hD0
      clear hD0
      refine zT 0 (.pointer (some ⟨w8.heap.size, 0, none⟩)) rfl (hy := ?_) (h := ?_)
      · intro w' hSw; go_simp
      (try simp only [Act.put, pA, pB, pD, pE, pF])
      refine zT 1 (.pointer (some ⟨w8.heap.size, 0, none⟩)) rfl (hy := ?_) (h := ?_)
      · intro w' hSw; go_simp
      (try simp only [Act.put, pA, pB, pC, pD, pE, pF])
      refine zT 2 (.slice (some ⟨vb, 0, none⟩) M.arrays.length cac2) rfl (hy := ?_) (h := ?_)
      · intro w' hSw; obtain ⟨z0, z1, z2, z3, z4, z5⟩ := res_cells (mem_keep HIN.out.1 hSw); go_simp
      (try simp only [Act.put, pA, pB, pC, pD, pE, pF])
      refine zT 3 (.int .i64 (i : Int)) rfl (hy := ?_) (h := ?_)
      · intro w' hSw; go_simp
      (try simp only [Act.put, pA, pB, pC, pD, pE, pF])
      refine zT 4 (.pointer (some ⟨vb, i, none⟩)) rfl (hy := ?_) (h := ?_)
      · intro w' hSw; go_simp
      (try simp only [Act.put, pA, pB, pC, pD, pE, pF])
      refine zT 5 (.slice (some ⟨ub, 0, none⟩) L.length uc) rfl (hy := ?_) (h := ?_)
      · intro w' hSw; have z0 := (HRD.out _ hSw).2.1; go_simp
      (try simp only [Act.put, pA, pB, pC, pD, pE, pF])
      refine zT 6 (.int .i64 (j : Int)) rfl (hy := ?_) (h := ?_)
      · intro w' hSw; go_simp
      (try simp only [Act.put, pA, pB, pC, pD, pE, pF])
      refine zT 7 (.pointer (some ⟨b15, 0, none⟩)) rfl (hy := ?_) (h := ?_)
      · intro w' hSw; go_simp
      (try simp only [Act.put, pA, pB, pC, pD, pE, pF])
      refine zT 8 (.slice (some ⟨cb, co, none⟩) cs'.length cc') rfl (hy := ?_) (h := ?_)
      · intro w' hSw; obtain ⟨z0, z1, z2, z3, z4, z5, z6⟩ := env_cells (mem_keep HIN.out.2.1 hSw); go_simp
      (try simp only [Act.put, pA, pB, pC, pD, pE, pF])
      refine zT 9 (.int .i64 (j : Int)) rfl (hy := ?_) (h := ?_)
      · intro w' hSw; go_simp
      (try simp only [Act.put, pA, pB, pC, pD, pE, pF])
      refine zT 10 (.pointer (some ⟨cb, co + j * 3, none⟩)) rfl (hy := ?_) (h := ?_)
      · intro w' hSw; go_simp
      (try simp only [Act.put, pA, pB, pC, pD, pE, pF])
      refine zT 11 (.pointer (some ⟨cb, co + j * 3 + 2, none⟩)) rfl (hy := ?_) (h := ?_)
      · intro w' hSw; go_simp
      (try simp only [Act.put, pA, pB, pC, pD, pE, pF])
      refine zT 12 (.slice ya c.l.length yc) rfl (hy := ?_) (h := ?_)
      · intro w' hSw; have z0 := (HRD.out _ hSw).1; go_simp
      (try simp only [Act.put, pA, pB, pC, pD, pE, pF])
      refine zT 13 (.pointer (some ⟨ub, j, none⟩)) rfl (hy := ?_) (h := ?_)
      · intro w' hSw; go_simp
      (try simp only [Act.put, pA, pB, pC, pD, pE, pF])
      obtain ⟨V, hV⟩ : ∃ V : World, V0.setCell ⟨ub, j, none⟩ (.slice ya c.l.length yc) = V := ⟨_, rfl⟩
      have HWV := Lib.hid (HIN.out.2.2.2.2.1.keep HD0.out)
      have z0 := (HRD.out _ HD0.out).2.2
      have f0 := row_free HWV.out.ui j
      have HIV : Hid (V.heap[w8.heap.size]? = some (.cells #[.slice (some ⟨vb, 0, none⟩) M.arrays.length cac2, .slice sa2 M.shared.length sac2, .slice oa' r1.out.length oc', .int .i64 (r1.rd : Int), .int .i64 (r1.st : Int), .int .i64 er] 37) ∧ V.heap[b15]? = some (envObj (some ⟨cb, co, none⟩) cs'.length cc' ia inp.length ic oa' r1.out.length oc' (r1.rd : Int) (r1.st : Int) F0 er) ∧ CelsOwn Bx V (some ⟨cb, co, none⟩) cs' y ∧ V.ownsRow Bx 80 2 (.slice oa' r1.out.length oc') r1.out.length (outCells r1.out) ∧ WantSt N2 N2 N0 V M i L (some ⟨vb, 0, none⟩) (some ⟨ub, 0, none⟩) sa2 cac2 uc sac2 vs2 (repV y (j + 1) uq) (repV (fun k => y (t.arrays.length + k)) 0 ss2) ∧ Below w8.heap.size w8 V) := by
        obtain ⟨cur, hcur⟩ := row_obj HWV.out.ui
        have hso := set_other (i := j) (x := .slice ya c.l.length yc) hcur
        rw [hV] at hso
        refine ⟨hso _ _ _ (mem_keep HIN.out.1 HD0.out) (by decide), hso _ _ _ (mem_keep HIN.out.2.1 HD0.out) (by decide), (HIN.out.2.2.1.below HD0.out).moved (by decide) (by decide) hso, own_move (own_below HIN.out.2.2.2.1 HD0.out) (by decide) hso, ?_, ?_⟩
        · have h := HWV.out.setU (x := .slice ya c.l.length yc) hjL
          rw [hV, ← HYJ.out, repV_set (by have := HWV.out.ui.1; unfold repV at this; simp at this; omega)] at h
          exact h
        · rw [← hV]
          exact ((mem_then HIN.out.2.2.2.2.2 HD0.out)).setCell (p := ⟨ub, j, none⟩) HUB.out _
      refine wpAnyZ_ready (rs := [14]) (by kernel_rfl) (by simp) (AllReadyZ.last rfl (by decide) (fun K hK => ?_) AllReadyZ.nil)
      go_simp
      refine hK.out _ _ ?_
      clear hK K
      (try simp only [Act.put, pA, pB, pC, pD, pE, pF])
      try rw [hV]
      clear z0 f0 hHeld hV
      refine wpAnyZ_done (by kernel_rfl) ?_ _
      go_wp2_with fail
      go_roundw
      case rel => exact ⟨j + 1, by omega, by go_num, HIV.out⟩
      case measure => simp [intOf]; omega
    · obtain rfl : j = t.arrays.length := by omega
      have hge : ¬ (t.arrays.length : Int) < (t.arrays.length : Int) := by omega
      obtain ⟨wo, hwo⟩ : ∃ wo : World, wo = wr := ⟨_, rfl⟩
      subst hwo
      obtain ⟨hx1, _, _, _⟩ := HK8.out wo HIN.out.2.2.2.2.2
      obtain ⟨x0, x1⟩ := mem_two hx1
      clear hx1
      go_upto_region 19 with fail
      clear x0 x1
      go_wp2_with fail
      go_loopw [106] (fun kv wr => ∃ j : Nat, j ≤ p.shared.length ∧ kv = .int .i64 (j : Int) ∧ wr.heap[w8.heap.size]? = some (.cells #[.slice ca2 M.arrays.length cac2, .slice sa2 M.shared.length sac2, .slice oa' r1.out.length oc', .int .i64 (r1.rd : Int), .int .i64 (r1.st : Int), .int .i64 er] 37) ∧ wr.heap[b15]? = some (envObj ca' cs'.length cc' ia inp.length ic oa' r1.out.length oc' (r1.rd : Int) (r1.st : Int) F0 er) ∧ CelsOwn Bx wr ca' cs' y ∧ wr.ownsRow Bx 80 2 (.slice oa' r1.out.length oc') r1.out.length (outCells r1.out) ∧ WantSt N2 N2 N0 wr M i L ca2 ua sa2 cac2 uc sac2 vs2 (repV y t.arrays.length uq) (repV (fun k => y (t.arrays.length + k)) j ss2) ∧ Below w8.heap.size w8 wr) (fun kv _ => p.shared.length - (intOf kv).toNat)
      case atStart => exact ⟨0, Nat.zero_le _, rfl, HIN.out⟩
      case round =>
        obtain ⟨j, hj, rfl, hinv⟩ := hrel
        have hj0 : (0 : Int) ≤ (j : Int) := by omega
        have HIM := Lib.hid hinv
        clear hinv
        by_cases hlt : j < p.shared.length
        · skip
          have hlt2 : (j : Int) < (p.shared.length : Int) := by omega
          have hjS : j < M.shared.length := by have := HRUN.out.lenS; omega
          have hjS2 : (j : Int) < (M.shared.length : Int) := by omega
          have hjc : t.arrays.length + j < cs'.length := by rw [HCLN'.out]; omega
          have hjc2 : ((t.arrays.length + j : Nat) : Int) < (cs'.length : Int) := by omega
          have hjc3 : (0 : Int) ≤ ((t.arrays.length + j : Nat) : Int) := by omega
          have hSf : M.shared.length ≤ 9223372036854775807 := hmsf
          have hcf : cs'.length ≤ 9223372036854775807 := by omega
          obtain ⟨c, hcj⟩ : ∃ c, cs'[t.arrays.length + j]? = some c := ⟨_, List.getElem?_eq_getElem hjc⟩
          obtain ⟨ya, yc, hyj⟩ := own_val (HIM.out.2.2.1.own _ c hcj)
          obtain ⟨cb, co, hcae, _, _, hcell⟩ := HIM.out.2.2.1.row _ c hcj
          rw [hyj] at hcell
          subst hcae
          obtain ⟨sb, hsae, hsb, _⟩ := own_at HIM.out.2.2.2.2.1.sh (by omega)
          subst hsae
          obtain ⟨m, hm⟩ : ∃ m, t.arrays.length + j = m := ⟨_, rfl⟩
          obtain ⟨u0, hu0⟩ : ∃ u0, wr.cell? ⟨sb, j, none⟩ = some u0 := ⟨_, own_get HIM.out.2.2.2.2.1.sh (List.getElem?_eq_getElem (by have := HIM.out.2.2.2.2.1.sh.1; omega))⟩
          rw [hm] at hcell hjc2 hjc3
          have HRD : Hid (∀ w', Below wr.heap.size wr w' → w'.cell? ⟨cb, co + m * 3 + 2, none⟩ = some (.slice ya c.l.length yc) ∧ w'.cell? ⟨sb, j, none⟩ = some u0) := fun w' hw => ⟨cell_stay hw hcell, cell_stay hw hu0⟩
          have HSB : Hid (w8.heap.size ≤ sb) := by have := HN0.out; show _ ≤ _; omega
          have HYJ : Hid (y (t.arrays.length + j) = .slice ya c.l.length yc) := hyj
          have HMM : Hid (IntKind.i64.wrap ((t.arrays.length : Int) + (j : Int)) = (m : Int)) := by show _ = _; rw [IntKind.wrap_i64]; omega
          have HM3 : Hid ((t.arrays.length : Int) + (j : Int) = (m : Int)) := by show _ = _; omega
          clear hcj hcell hu0 hyj hsb hm hjc
          go_upto_region 21 with fail
          have hD0 : Below wr.heap.size wr (World.drew wr) := (Below.refl _ _).drew
          refine wp_region_z 13 (S := fun w' => Below wr.heap.size wr w') (by kernel_rfl) hD0 (fun hHeld => ?_)
          generalize hwd : World.drew wr = V0 at hHeld hD0 ⊢
          clear hwd
          have HD0 := Lib.hid hD0
          clear hD0
          refine zT 0 (.pointer (some ⟨w8.heap.size, 0, none⟩)) rfl (hy := ?_) (h := ?_)
          · intro w' hSw; go_simp
          (try simp only [Act.put, pA, pB, pD, pE, pF])
          refine zT 1 (.pointer (some ⟨w8.heap.size, 1, none⟩)) rfl (hy := ?_) (h := ?_)
          · intro w' hSw; go_simp
          (try simp only [Act.put, pA, pB, pC, pD, pE, pF])
          refine zT 2 (.slice (some ⟨sb, 0, none⟩) M.shared.length sac2) rfl (hy := ?_) (h := ?_)
          · intro w' hSw; obtain ⟨z0, z1, z2, z3, z4, z5⟩ := res_cells (mem_keep HIM.out.1 hSw); go_simp
          (try simp only [Act.put, pA, pB, pC, pD, pE, pF])
          refine zT 3 (.int .i64 (j : Int)) rfl (hy := ?_) (h := ?_)
          · intro w' hSw; go_simp
          (try simp only [Act.put, pA, pB, pC, pD, pE, pF])
          refine zT 4 (.pointer (some ⟨b15, 0, none⟩)) rfl (hy := ?_) (h := ?_)
          · intro w' hSw; go_simp
          (try simp only [Act.put, pA, pB, pC, pD, pE, pF])
          refine zT 5 (.slice (some ⟨cb, co, none⟩) cs'.length cc') rfl (hy := ?_) (h := ?_)
          · intro w' hSw; obtain ⟨z0, z1, z2, z3, z4, z5, z6⟩ := env_cells (mem_keep HIM.out.2.1 hSw); go_simp
          (try simp only [Act.put, pA, pB, pC, pD, pE, pF])
          refine zT 6 (.int .i64 (t.arrays.length : Int)) rfl (hy := ?_) (h := ?_)
          · intro w' hSw; go_simp
          (try simp only [Act.put, pA, pB, pC, pD, pE, pF])
          refine zT 7 (.int .i64 (j : Int)) rfl (hy := ?_) (h := ?_)
          · intro w' hSw; go_simp
          (try simp only [Act.put, pA, pB, pC, pD, pE, pF])
          refine zT 8 (.int .i64 (m : Int)) rfl (hy := ?_) (h := ?_)
          · intro w' hSw; go_simp; (first | done | exact HMM.out | exact HM3.out | rw [HMM.out] | rw [HM3.out])
          (try simp only [Act.put, pA, pB, pC, pD, pE, pF])
          refine zT 9 (.pointer (some ⟨cb, co + m * 3, none⟩)) rfl (hy := ?_) (h := ?_)
          · intro w' hSw; go_simp
          (try simp only [Act.put, pA, pB, pC, pD, pE, pF])
          refine zT 10 (.pointer (some ⟨cb, co + m * 3 + 2, none⟩)) rfl (hy := ?_) (h := ?_)
          · intro w' hSw; go_simp
          (try simp only [Act.put, pA, pB, pC, pD, pE, pF])
          refine zT 11 (.slice ya c.l.length yc) rfl (hy := ?_) (h := ?_)
          · intro w' hSw; have z0 := (HRD.out _ hSw).1; go_simp
          (try simp only [Act.put, pA, pB, pC, pD, pE, pF])
          refine zT 12 (.pointer (some ⟨sb, j, none⟩)) rfl (hy := ?_) (h := ?_)
          · intro w' hSw; go_simp
          (try simp only [Act.put, pA, pB, pC, pD, pE, pF])
          obtain ⟨V, hV⟩ : ∃ V : World, V0.setCell ⟨sb, j, none⟩ (.slice ya c.l.length yc) = V := ⟨_, rfl⟩
          have HWV := Lib.hid (HIM.out.2.2.2.2.1.keep HD0.out)
          have z0 := (HRD.out _ HD0.out).2
          have f0 := row_free HWV.out.sh j
          have HIV : Hid (V.heap[w8.heap.size]? = some (.cells #[.slice ca2 M.arrays.length cac2, .slice (some ⟨sb, 0, none⟩) M.shared.length sac2, .slice oa' r1.out.length oc', .int .i64 (r1.rd : Int), .int .i64 (r1.st : Int), .int .i64 er] 37) ∧ V.heap[b15]? = some (envObj (some ⟨cb, co, none⟩) cs'.length cc' ia inp.length ic oa' r1.out.length oc' (r1.rd : Int) (r1.st : Int) F0 er) ∧ CelsOwn Bx V (some ⟨cb, co, none⟩) cs' y ∧ V.ownsRow Bx 80 2 (.slice oa' r1.out.length oc') r1.out.length (outCells r1.out) ∧ WantSt N2 N2 N0 V M i L ca2 ua (some ⟨sb, 0, none⟩) cac2 uc sac2 vs2 (repV y t.arrays.length uq) (repV (fun k => y (t.arrays.length + k)) (j + 1) ss2) ∧ Below w8.heap.size w8 V) := by
            obtain ⟨cur, hcur⟩ := row_obj HWV.out.sh
            have hso := set_other (i := j) (x := .slice ya c.l.length yc) hcur
            rw [hV] at hso
            refine ⟨hso _ _ _ (mem_keep HIM.out.1 HD0.out) (by decide), hso _ _ _ (mem_keep HIM.out.2.1 HD0.out) (by decide), (HIM.out.2.2.1.below HD0.out).moved (by decide) (by decide) hso, own_move (own_below HIM.out.2.2.2.1 HD0.out) (by decide) hso, ?_, ?_⟩
            · have h := HWV.out.setS (x := .slice ya c.l.length yc) hjS
              have hr := repV_set (f := fun k => y (t.arrays.length + k)) (j := j) (l := ss2) (by have := HWV.out.sh.1; unfold repV at this; simp at this; omega)
              rw [hV, ← HYJ.out, hr] at h
              exact h
            · rw [← hV]
              exact ((mem_then HIM.out.2.2.2.2.2 HD0.out)).setCell (p := ⟨sb, j, none⟩) HSB.out _
          refine wpAnyZ_ready (rs := [13]) (by kernel_rfl) (by simp) (AllReadyZ.last rfl (by decide) (fun K hK => ?_) AllReadyZ.nil)
          go_simp
          refine hK.out _ _ ?_
          clear hK K
          (try simp only [Act.put, pA, pB, pC, pD, pE, pF])
          try rw [hV]
          clear z0 f0 hHeld hV
          refine wpAnyZ_done (by kernel_rfl) ?_ _
          go_wp2_with fail
          go_roundw
          case rel => exact ⟨j + 1, by omega, by go_num, HIV.out⟩
          case measure => simp [intOf]; omega
        · obtain rfl : j = p.shared.length := by omega
          have hge2 : ¬ (p.shared.length : Int) < (p.shared.length : Int) := by omega
          have HCG := Lib.hid (fun (k : Nat) (a : Arr) (hk : (t.arrays ++ p.shared)[k]? = some a) => cells_get (D := t.arrays) (S := p.shared) (V := t.vars) (cs := cs') (by rw [HNC.out, jobC_N p i L M.shared HRUN.out.lenS (by rw [HTT.out]; exact HRUN.out.lenA), HTT.out]) HRUN.out.names hk)
          have HME : Hid (MemAt wr ⟨M.arrays.set i (getA r1.A t.arrays), getA r1.A p.shared⟩ ca2 sa2) := by
            have hal3 : i < M.arrays.length := (List.getElem?_eq_some_iff.1 HRUN.out.at_).1
            have hd1 := HSM.out.1.1
            have hd2 := HSM.out.2.1.1
            refine HIM.out.2.2.2.2.1.mem hal3 (by omega) (by have := HRUN.out.lenA; omega) (by omega) (fun r hr => by have := (HSM.out.2.1.2 r hr).1; omega) HWA.out (by rw [getA_len]; exact HRUN.out.lenA) (by rw [getA_len]; exact HRUN.out.lenS) (fun k r hk => ?_) (fun k r hk => ?_)
            · obtain ⟨a, ha, hra⟩ := getA_at' hk
              have hkl := (List.getElem?_eq_some_iff.1 ha).1
              obtain ⟨c, hc, he⟩ := HCG.out k a (by rw [List.getElem?_append_left hkl]; exact ha)
              rw [HAE.out, he] at hra
              have hra : r = c.l := hra
              subst hra
              have hul : uq.length = t.arrays.length := HUQ.out.1.trans HRUN.out.lenA.symm
              exact ⟨y k, repV_all hul hkl, (HFIT.out k c hc).2.1, Bx, HIM.out.2.2.1.own k c hc⟩
            · obtain ⟨a, ha, hra⟩ := getA_at' hk
              have hkl := (List.getElem?_eq_some_iff.1 ha).1
              obtain ⟨c, hc, he⟩ := HCG.out (t.arrays.length + k) a (by rw [List.getElem?_append_right (by omega), Nat.add_sub_cancel_left]; exact ha)
              rw [HAE.out, he] at hra
              have hra : r = c.l := hra
              subst hra
              have hul : ss2.length = p.shared.length := HUQ.out.2.trans HRUN.out.lenS.symm
              exact ⟨y (t.arrays.length + k), repV_all (f := fun k => y (t.arrays.length + k)) hul hkl, (HFIT.out _ c hc).2.1, Bx, HIM.out.2.2.1.own _ c hc⟩
          obtain ⟨S, hS⟩ : ∃ S, runR p i M (r1, er) = S := ⟨_, rfl⟩
          have HRS : Hid (R = S) := by show _ = _; rw [HRR.out, hS]
          have HOA : Hid (ResAt wr S ca2 sa2 oa') := by
            show ResAt _ _ _ _ _
            rw [← hS]
            have ho := HIM.out.2.2.2.1
            refine ⟨?_, (out_at ho (own_le16 ho)).2⟩
            have h := HME.out
            unfold runR
            rw [HTT.out]
            exact h
          have HSV : Hid (Calls Tryd.prog 20 #[R.val aa ac ra rc oa oc, .agg #[.slice ca2 M.arrays.length cac2, .slice sa2 M.shared.length sac2, .slice oa' r1.out.length oc', .int .i64 (r1.rd : Int), .int .i64 (r1.st : Int), .int .i64 er], .bool true] wr fun e w' => e = .returned (.bool true) ∧ Below wr.heap.size wr w') := by
            have h := same_any R S true wr aa ra oa ca2 sa2 oa' ac rc oc cac2 sac2 oc' (HK8.out wr HIM.out.2.2.2.2.2).2.2.2.2.2.2.2 HOA.out
            rw [show sameP R S true = true by rw [HRS.out]; exact sameP_self _ _] at h
            have e1 : S.mem.arrays.length = M.arrays.length := by rw [← hS]; show (M.arrays.set i _).length = _; rw [List.length_set]
            have e2 : S.mem.shared.length = M.shared.length := by rw [← hS]; show (getA r1.A p.shared).length = _; rw [getA_len]; exact HRUN.out.lenS
            unfold Res.val at h ⊢
            rw [e1, e2] at h
            rw [← hS] at h
            exact h
          have HKF := Lib.hid (HK8.out wr HIM.out.2.2.2.2.2)
          obtain ⟨q0, q1, q2, q3, q4, q5⟩ := res_cells HKF.out.2.2.2.2.2.2.1
          obtain ⟨z0, z1, z2, z3, z4, z5⟩ := res_cells HIM.out.1
          clear hS
          go_wp2_with fail
          clear q0 q1 q2 q3 q4 q5 z0 z1 z2 z3 z4 z5
          refine HSV.out.mono ?_
          rintro e0 w19 ⟨rfl, hB19⟩
          have HBF : Hid (Below w.heap.size w w19) := mem_then HKF.out.2.2.2.2.2.1 hB19
          clear hB19
          go_wp2_with fail
          go_ret
          exact ⟨rfl, HBF.out⟩
end Go.Proofs.YtgochgcchkdlmaaDoor
