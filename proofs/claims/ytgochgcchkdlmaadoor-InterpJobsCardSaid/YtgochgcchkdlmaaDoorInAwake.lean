/-
  Contract: awake (package ontimelaw16).
-/
import Derived.Test.YtgochgcchkdlmaaDoorPuts
import Derived.Test.YtgochgcchkdlmaaDoorInJobs
import Derived.Test.YtgochgcchkdlmaaDoorInNews
import Derived.Test.YtgochgcchkdlmaaDoorInSams
import Derived.Test.YtgochgcchkdlmaaDoorInEqs
namespace Go.Proofs.YtgochgcchkdlmaaDoor
set_option linter.unusedVariables false
set_option linter.unusedSimpArgs false
open Go.RowKit Go.Maps
set_option maxRecDepth 100000
set_option maxHeartbeats 80000000

abbrev zRes : Obj := resObj (.slice none 0 0) (.slice none 0 0) (.slice none 0 0) 0 0 0
theorem OutAt.stored {U E : World} {b : Nat} {oa : Option Addr} {l : List (Int × Int)} (hz : U.heap[b]? = some zRes) (h : ∀ k, k ≠ b → E.heap[k]? = U.heap[k]?) (ho : OutAt U oa l) : OutAt E oa l :=
  ⟨ho.1, fun k x hx => by
    obtain ⟨c, off, h1, h2, h3⟩ := ho.2 k x hx
    have hne : c ≠ b := by
      rintro rfl
      rw [mem_cell hz] at h3
      generalize off + k * 2 + 1 = n at h3
      match n, h3 with
      | 0, h3 => cases h3
      | 1, h3 => cases h3
      | 2, h3 => cases h3
      | 3, h3 => cases h3
      | 4, h3 => cases h3
      | 5, h3 => cases h3
      | n + 6, h3 => simp at h3
    exact ⟨c, off, h1, (World.cell?_of_block (w := U) (h c hne)).trans h2, (World.cell?_of_block (w := U) (h c hne)).trans h3⟩⟩
theorem sam_new : newP samP = samM ∧ newE samP = 0 := ⟨by kernel_rfl, by kernel_rfl⟩
abbrev Res.obj (R : Res) (aa : Option Addr) (ac : Nat) (sa : Option Addr) (sc : Nat) (oa : Option Addr) (oc : Nat) : Obj := resObj (.slice aa R.mem.arrays.length ac) (.slice sa R.mem.shared.length sc) (.slice oa R.out.length oc) R.rd R.st R.err
theorem words_none {w : World} : WordsAt w none [] := ⟨Nat.zero_le _, fun x h => absurd h (List.not_mem_nil), .inl rfl⟩
theorem awake_any (w : World) (hg : SignsIn w) :
    Calls Tryd.prog 11 #[] w fun e w' => e = .returned (.bool true) ∧ Below w.heap.size w w' := by
  have HG := Lib.hid hg
  have HS := Lib.hid (sample_any w)
  clear hg
  go_enter Tryd.func11, Tryd.ntmps11
  go_wp2_with fail
  refine HS.out.mono ?_
  rintro e w1 ⟨ta, tc, rfl, hp, hB1⟩
  have HB1 := Lib.hid hB1
  have HN := Lib.hid (new_any samP w1 none ta 0 tc hp (HG.out.below hB1))
  clear HS hp hB1
  go_wp2_with fail
  refine HN.out.mono ?_
  rintro e w2 ⟨ma, mac, ms, msc, rfl, hm, hB2⟩
  rw [sam_new.1] at hm
  rw [sam_new.1, sam_new.2]
  have HB2 := Lib.hid (mem_then HB1.out hB2)
  obtain ⟨V, hV⟩ : ∃ V : World, w2.alloc (memObj samM ma mac ms msc) = V := ⟨_, rfl⟩
  have hBV : Below w2.heap.size w2 V := by rw [← hV]; exact mem_alloc _ _
  have HXV : Hid (V.heap[w2.heap.size]? = some (memObj samM ma mac ms msc)) := by show _ = _; rw [← hV]; exact mem_new _ _
  have HBV := Lib.hid (mem_then HB2.out hBV)
  have HM := Lib.hid (hm.below hBV)
  clear HN hm hB2 hBV
  go_upto_region 2 with fail
  try rw [hV]
  clear hV
  obtain ⟨R, hR⟩ : ∃ R, jobP samP 0 samM [] 11 = R := ⟨_, rfl⟩
  have HR := Lib.hid hR
  clear hR
  go_cut [3] from 10 to 12 (fun s w' => ∃ b aa ac sa sc oa oc, s = .pointer (some ⟨b, 0, none⟩) ∧ w'.heap[b]? = some (Res.obj R aa ac sa sc oa oc) ∧ OutAt w' oa R.out ∧ Below V.heap.size V w')
  case first =>
    have hD0 : Below V.heap.size V (World.drew V) := (Below.refl _ _).drew
    refine wp_region_held_drew (S := fun w' => Below V.heap.size V w') (by kernel_rfl) hD0 (fun hHeld => ?_)
    generalize hwd : World.drew V = v1 at hHeld hD0 ⊢
    clear hwd hD0
    have HHV := Lib.hid hHeld
    refine hT 1 (samM.val ma mac ms msc) rfl (hy := ?_) (h := ?_)
    · intro w' hSw; obtain ⟨z0, z1⟩ := mem_two (mem_keep HXV.out hSw); go_simp
    (try simp only [Act.put, pA, pB, pC, pD, pE, pF])
    refine wpAnyH_ready (rs := [0, 3]) (by kernel_rfl) (by simp) (AllReadyH.cons rfl (fun K hK => ?_) (AllReadyH.cons rfl (fun K hK => ?_) AllReadyH.nil))
    · go_simp
      refine (sample_any v1).mono ?_
      rintro e w5 ⟨ta2, tc2, rfl, hp5, hB5⟩
      have HP5 := Lib.hid hp5
      have HB5 := Lib.hid (mem_then HHV.out hB5)
      have HB5' := Lib.hid hB5
      clear hp5 hB5
      refine hK.out _ _ (HB5.out) (fun hHeld => ?_)
      clear hK K
      rename_i hOld
      clear hOld
      (try simp only [Act.put, pA, pB, pC, pD, pE, pF])
      refine wpAnyH_ready (rs := [2, 3]) (by kernel_rfl) (by simp) (AllReadyH.cons rfl (fun K hK => ?_) (AllReadyH.cons rfl (fun K hK => ?_) AllReadyH.nil))
      · go_simp
        refine (job_any samP 0 samM [] 11 w5 none ta2 0 tc2 ma ms mac msc none 0 (HP5.out.below (Below.refl _ _)) (HM.out.below HB5.out) words_none (HG.out.below (mem_then HBV.out HB5.out)) ⟨by decide, by decide⟩ (by decide) (by decide)).mono ?_
        rintro e w6 ⟨aa, ac, sa, sc, oa, oc, rfl, hra, hB6, _⟩
        rw [HR.out] at hra ⊢
        have HO6 := Lib.hid hra.out
        have HB6 := Lib.hid (mem_then HB5.out hB6)
        have HB6' := Lib.hid hB6
        clear hra hB6
        refine hK.out _ _ (HB6.out) (fun hHeld => ?_)
        clear hK K
        rename_i hOld
        clear hOld
        (try simp only [Act.put, pA, pB, pC, pD, pE, pF])
        refine hR 3 rfl (fun K hK => ?_)
        go_simp
        refine hK.out _ _ (mem_then HB6.out (mem_alloc _ _)) (fun hHeld => ?_)
        clear hK K
        rename_i hOld
        clear hOld
        (try simp only [Act.put, pA, pB, pC, pD, pE, pF])
        have hz : (w6.alloc zRes).heap[w6.heap.size]? = some zRes := mem_new _ _
        have hzB := mem_alloc w6 zRes
        generalize hQ : w6.alloc zRes = U at hz hzB hHeld ⊢
        clear hQ
        have HU : Hid (Below V.heap.size V U) := mem_then HB6.out hzB
        have HZ := Lib.hid hz
        have HOU := Lib.hid (HO6.out.below hzB)
        have HGE : Hid (V.heap.size ≤ w6.heap.size) := HB6.out.size
        clear hz hzB
        obtain ⟨y0, y1, y2, y3, y4, y5⟩ := res_cells HZ.out
        have f0 := mem_free HZ.out 0
        have f1 := mem_free HZ.out 1
        have f2 := mem_free HZ.out 2
        have f3 := mem_free HZ.out 3
        have f4 := mem_free HZ.out 4
        have f5 := mem_free HZ.out 5
        refine hR 4 rfl (fun K hK => ?_)
        go_simp
        refine hK.out _ _ (set6_below (x0 := .slice aa R.mem.arrays.length ac) (x1 := .slice sa R.mem.shared.length sc) (x2 := .slice oa R.out.length oc) (x3 := .int .i64 (R.rd : Int)) (x4 := .int .i64 (R.st : Int)) (x5 := .int .i64 R.err) HU.out HGE.out) (fun hHeld => ?_)
        clear hK K
        rename_i hOld
        clear hOld
        (try simp only [Act.put, pA, pB, pC, pD, pE, pF])
        clear y0 y1 y2 y3 y4 y5 f0 f1 f2 f3 f4 f5 hHeld
        refine wpAnyH_done (by kernel_rfl) ?_ _
        go_wp2_with fail
        go_meet
        exact ⟨w6.heap.size, aa, ac, sa, sc, oa, oc, rfl, set6_at HZ.out, HOU.out.stored HZ.out (fun k hk => set6_far hk), set6_below HU.out HGE.out⟩
      · go_simp
        refine hK.out _ _ (mem_then HB5.out (mem_alloc _ _)) (fun hHeld => ?_)
        clear hK K
        rename_i hOld
        clear hOld
        (try simp only [Act.put, pA, pB, pC, pD, pE, pF])
        have hz : (w5.alloc zRes).heap[w5.heap.size]? = some zRes := mem_new _ _
        have hzB := mem_alloc w5 zRes
        generalize hQ : w5.alloc zRes = Q at hz hzB hHeld ⊢
        clear hQ
        have HQZ := Lib.hid hz
        have HQB := Lib.hid hzB
        have HQV := Lib.hid (mem_then HB5.out hzB)
        clear hz hzB
        refine hR 2 rfl (fun K hK => ?_)
        go_simp
        refine (job_any samP 0 samM [] 11 Q none ta2 0 tc2 ma ms mac msc none 0 (HP5.out.below HQB.out) (HM.out.below HQV.out) words_none (HG.out.below (mem_then HBV.out HQV.out)) ⟨by decide, by decide⟩ (by decide) (by decide)).mono ?_
        rintro e w6 ⟨aa, ac, sa, sc, oa, oc, rfl, hra, hB6, _⟩
        rw [HR.out] at hra ⊢
        have HO6 := Lib.hid hra.out
        have HB6 := Lib.hid (mem_then HQV.out hB6)
        have HB6' := Lib.hid hB6
        clear hra hB6
        refine hK.out _ _ (HB6.out) (fun hHeld => ?_)
        clear hK K
        rename_i hOld
        clear hOld
        (try simp only [Act.put, pA, pB, pC, pD, pE, pF])
        have HU := HB6
        have HZ := Lib.hid (mem_keep HQZ.out HB6'.out)
        have HOU := HO6
        have HGE : Hid (V.heap.size ≤ w5.heap.size) := HB5.out.size
        obtain ⟨y0, y1, y2, y3, y4, y5⟩ := res_cells HZ.out
        have f0 := mem_free HZ.out 0
        have f1 := mem_free HZ.out 1
        have f2 := mem_free HZ.out 2
        have f3 := mem_free HZ.out 3
        have f4 := mem_free HZ.out 4
        have f5 := mem_free HZ.out 5
        refine hR 4 rfl (fun K hK => ?_)
        go_simp
        refine hK.out _ _ (set6_below (x0 := .slice aa R.mem.arrays.length ac) (x1 := .slice sa R.mem.shared.length sc) (x2 := .slice oa R.out.length oc) (x3 := .int .i64 (R.rd : Int)) (x4 := .int .i64 (R.st : Int)) (x5 := .int .i64 R.err) HU.out HGE.out) (fun hHeld => ?_)
        clear hK K
        rename_i hOld
        clear hOld
        (try simp only [Act.put, pA, pB, pC, pD, pE, pF])
        clear y0 y1 y2 y3 y4 y5 f0 f1 f2 f3 f4 f5 hHeld
        refine wpAnyH_done (by kernel_rfl) ?_ _
        go_wp2_with fail
        go_meet
        exact ⟨w5.heap.size, aa, ac, sa, sc, oa, oc, rfl, set6_at HZ.out, HOU.out.stored HZ.out (fun k hk => set6_far hk), set6_below HU.out HGE.out⟩
    · go_simp
      refine hK.out _ _ (mem_then HHV.out (mem_alloc _ _)) (fun hHeld => ?_)
      clear hK K
      rename_i hOld
      clear hOld
      (try simp only [Act.put, pA, pB, pC, pD, pE, pF])
      have hz : (v1.alloc zRes).heap[v1.heap.size]? = some zRes := mem_new _ _
      have hzB := mem_alloc v1 zRes
      generalize hQ : v1.alloc zRes = Q at hz hzB hHeld ⊢
      clear hQ
      have HQZ := Lib.hid hz
      have HQB := Lib.hid hzB
      have HQV := Lib.hid (mem_then HHV.out hzB)
      clear hz hzB
      refine hR 0 rfl (fun K hK => ?_)
      go_simp
      refine (sample_any Q).mono ?_
      rintro e w5 ⟨ta2, tc2, rfl, hp5, hB5⟩
      have HP5 := Lib.hid hp5
      have HB5 := Lib.hid (mem_then HQV.out hB5)
      have HB5' := Lib.hid hB5
      clear hp5 hB5
      refine hK.out _ _ (HB5.out) (fun hHeld => ?_)
      clear hK K
      rename_i hOld
      clear hOld
      (try simp only [Act.put, pA, pB, pC, pD, pE, pF])
      refine hR 2 rfl (fun K hK => ?_)
      go_simp
      refine (job_any samP 0 samM [] 11 w5 none ta2 0 tc2 ma ms mac msc none 0 (HP5.out.below (Below.refl _ _)) (HM.out.below HB5.out) words_none (HG.out.below (mem_then HBV.out HB5.out)) ⟨by decide, by decide⟩ (by decide) (by decide)).mono ?_
      rintro e w6 ⟨aa, ac, sa, sc, oa, oc, rfl, hra, hB6, _⟩
      rw [HR.out] at hra ⊢
      have HO6 := Lib.hid hra.out
      have HB6 := Lib.hid (mem_then HB5.out hB6)
      have HB6' := Lib.hid hB6
      clear hra hB6
      refine hK.out _ _ (HB6.out) (fun hHeld => ?_)
      clear hK K
      rename_i hOld
      clear hOld
      (try simp only [Act.put, pA, pB, pC, pD, pE, pF])
      have HU := HB6
      have HZ := Lib.hid (mem_keep (mem_keep HQZ.out HB5'.out) HB6'.out)
      have HOU := HO6
      have HGE : Hid (V.heap.size ≤ v1.heap.size) := HHV.out.size
      obtain ⟨y0, y1, y2, y3, y4, y5⟩ := res_cells HZ.out
      have f0 := mem_free HZ.out 0
      have f1 := mem_free HZ.out 1
      have f2 := mem_free HZ.out 2
      have f3 := mem_free HZ.out 3
      have f4 := mem_free HZ.out 4
      have f5 := mem_free HZ.out 5
      refine hR 4 rfl (fun K hK => ?_)
      go_simp
      refine hK.out _ _ (set6_below (x0 := .slice aa R.mem.arrays.length ac) (x1 := .slice sa R.mem.shared.length sc) (x2 := .slice oa R.out.length oc) (x3 := .int .i64 (R.rd : Int)) (x4 := .int .i64 (R.st : Int)) (x5 := .int .i64 R.err) HU.out HGE.out) (fun hHeld => ?_)
      clear hK K
      rename_i hOld
      clear hOld
      (try simp only [Act.put, pA, pB, pC, pD, pE, pF])
      clear y0 y1 y2 y3 y4 y5 f0 f1 f2 f3 f4 f5 hHeld
      refine wpAnyH_done (by kernel_rfl) ?_ _
      go_wp2_with fail
      go_meet
      exact ⟨v1.heap.size, aa, ac, sa, sc, oa, oc, rfl, set6_at HZ.out, HOU.out.stored HZ.out (fun k hk => set6_far hk), set6_below HU.out HGE.out⟩
  case rest =>
  obtain ⟨b1, aa1, ac1, sa1, sc1, oa1, oc1, rfl, hx1, ho1, hBc⟩ := hcut
  obtain ⟨Y, hY⟩ : ∃ Y : World, Y = wc := ⟨_, rfl⟩
  subst hY
  have HX1 := Lib.hid hx1
  have HO1 := Lib.hid ho1
  have HBY := Lib.hid (mem_then HBV.out hBc)
  have HXY := Lib.hid (mem_keep HXV.out hBc)
  have HMY := Lib.hid (HM.out.below hBc)
  clear hx1 ho1 hBc
  go_upto_region 3 with fail
  obtain ⟨S, hS⟩ : ∃ R, jobP samP 0 samM [] 10 = R := ⟨_, rfl⟩
  have HS := Lib.hid hS
  clear hS
  go_cut [4] from 13 to 15 (fun s w' => ∃ b aa ac sa sc oa oc, s = .pointer (some ⟨b, 0, none⟩) ∧ w'.heap[b]? = some (Res.obj S aa ac sa sc oa oc) ∧ OutAt w' oa S.out ∧ Below Y.heap.size Y w')
  case first =>
    have hD0 : Below Y.heap.size Y (World.drew Y) := (Below.refl _ _).drew
    refine wp_region_held_drew (S := fun w' => Below Y.heap.size Y w') (by kernel_rfl) hD0 (fun hHeld => ?_)
    generalize hwd : World.drew Y = v1 at hHeld hD0 ⊢
    clear hwd hD0
    have HHV := Lib.hid hHeld
    refine hT 1 (samM.val ma mac ms msc) rfl (hy := ?_) (h := ?_)
    · intro w' hSw; obtain ⟨z0, z1⟩ := mem_two (mem_keep HXY.out hSw); go_simp
    (try simp only [Act.put, pA, pB, pC, pD, pE, pF])
    refine wpAnyH_ready (rs := [0, 3]) (by kernel_rfl) (by simp) (AllReadyH.cons rfl (fun K hK => ?_) (AllReadyH.cons rfl (fun K hK => ?_) AllReadyH.nil))
    · go_simp
      refine (sample_any v1).mono ?_
      rintro e w5 ⟨ta2, tc2, rfl, hp5, hB5⟩
      have HP5 := Lib.hid hp5
      have HB5 := Lib.hid (mem_then HHV.out hB5)
      have HB5' := Lib.hid hB5
      clear hp5 hB5
      refine hK.out _ _ (HB5.out) (fun hHeld => ?_)
      clear hK K
      rename_i hOld
      clear hOld
      (try simp only [Act.put, pA, pB, pC, pD, pE, pF])
      refine wpAnyH_ready (rs := [2, 3]) (by kernel_rfl) (by simp) (AllReadyH.cons rfl (fun K hK => ?_) (AllReadyH.cons rfl (fun K hK => ?_) AllReadyH.nil))
      · go_simp
        refine (job_any samP 0 samM [] 10 w5 none ta2 0 tc2 ma ms mac msc none 0 (HP5.out.below (Below.refl _ _)) (HMY.out.below HB5.out) words_none (HG.out.below (mem_then HBY.out HB5.out)) ⟨by decide, by decide⟩ (by decide) (by decide)).mono ?_
        rintro e w6 ⟨aa, ac, sa, sc, oa, oc, rfl, hra, hB6, _⟩
        rw [HS.out] at hra ⊢
        have HO6 := Lib.hid hra.out
        have HB6 := Lib.hid (mem_then HB5.out hB6)
        have HB6' := Lib.hid hB6
        clear hra hB6
        refine hK.out _ _ (HB6.out) (fun hHeld => ?_)
        clear hK K
        rename_i hOld
        clear hOld
        (try simp only [Act.put, pA, pB, pC, pD, pE, pF])
        refine hR 3 rfl (fun K hK => ?_)
        go_simp
        refine hK.out _ _ (mem_then HB6.out (mem_alloc _ _)) (fun hHeld => ?_)
        clear hK K
        rename_i hOld
        clear hOld
        (try simp only [Act.put, pA, pB, pC, pD, pE, pF])
        have hz : (w6.alloc zRes).heap[w6.heap.size]? = some zRes := mem_new _ _
        have hzB := mem_alloc w6 zRes
        generalize hQ : w6.alloc zRes = U at hz hzB hHeld ⊢
        clear hQ
        have HU : Hid (Below Y.heap.size Y U) := mem_then HB6.out hzB
        have HZ := Lib.hid hz
        have HOU := Lib.hid (HO6.out.below hzB)
        have HGE : Hid (Y.heap.size ≤ w6.heap.size) := HB6.out.size
        clear hz hzB
        obtain ⟨y0, y1, y2, y3, y4, y5⟩ := res_cells HZ.out
        have f0 := mem_free HZ.out 0
        have f1 := mem_free HZ.out 1
        have f2 := mem_free HZ.out 2
        have f3 := mem_free HZ.out 3
        have f4 := mem_free HZ.out 4
        have f5 := mem_free HZ.out 5
        refine hR 4 rfl (fun K hK => ?_)
        go_simp
        refine hK.out _ _ (set6_below (x0 := .slice aa S.mem.arrays.length ac) (x1 := .slice sa S.mem.shared.length sc) (x2 := .slice oa S.out.length oc) (x3 := .int .i64 (S.rd : Int)) (x4 := .int .i64 (S.st : Int)) (x5 := .int .i64 S.err) HU.out HGE.out) (fun hHeld => ?_)
        clear hK K
        rename_i hOld
        clear hOld
        (try simp only [Act.put, pA, pB, pC, pD, pE, pF])
        clear y0 y1 y2 y3 y4 y5 f0 f1 f2 f3 f4 f5 hHeld
        refine wpAnyH_done (by kernel_rfl) ?_ _
        go_wp2_with fail
        go_meet
        exact ⟨w6.heap.size, aa, ac, sa, sc, oa, oc, rfl, set6_at HZ.out, HOU.out.stored HZ.out (fun k hk => set6_far hk), set6_below HU.out HGE.out⟩
      · go_simp
        refine hK.out _ _ (mem_then HB5.out (mem_alloc _ _)) (fun hHeld => ?_)
        clear hK K
        rename_i hOld
        clear hOld
        (try simp only [Act.put, pA, pB, pC, pD, pE, pF])
        have hz : (w5.alloc zRes).heap[w5.heap.size]? = some zRes := mem_new _ _
        have hzB := mem_alloc w5 zRes
        generalize hQ : w5.alloc zRes = Q at hz hzB hHeld ⊢
        clear hQ
        have HQZ := Lib.hid hz
        have HQB := Lib.hid hzB
        have HQV := Lib.hid (mem_then HB5.out hzB)
        clear hz hzB
        refine hR 2 rfl (fun K hK => ?_)
        go_simp
        refine (job_any samP 0 samM [] 10 Q none ta2 0 tc2 ma ms mac msc none 0 (HP5.out.below HQB.out) (HMY.out.below HQV.out) words_none (HG.out.below (mem_then HBY.out HQV.out)) ⟨by decide, by decide⟩ (by decide) (by decide)).mono ?_
        rintro e w6 ⟨aa, ac, sa, sc, oa, oc, rfl, hra, hB6, _⟩
        rw [HS.out] at hra ⊢
        have HO6 := Lib.hid hra.out
        have HB6 := Lib.hid (mem_then HQV.out hB6)
        have HB6' := Lib.hid hB6
        clear hra hB6
        refine hK.out _ _ (HB6.out) (fun hHeld => ?_)
        clear hK K
        rename_i hOld
        clear hOld
        (try simp only [Act.put, pA, pB, pC, pD, pE, pF])
        have HU := HB6
        have HZ := Lib.hid (mem_keep HQZ.out HB6'.out)
        have HOU := HO6
        have HGE : Hid (Y.heap.size ≤ w5.heap.size) := HB5.out.size
        obtain ⟨y0, y1, y2, y3, y4, y5⟩ := res_cells HZ.out
        have f0 := mem_free HZ.out 0
        have f1 := mem_free HZ.out 1
        have f2 := mem_free HZ.out 2
        have f3 := mem_free HZ.out 3
        have f4 := mem_free HZ.out 4
        have f5 := mem_free HZ.out 5
        refine hR 4 rfl (fun K hK => ?_)
        go_simp
        refine hK.out _ _ (set6_below (x0 := .slice aa S.mem.arrays.length ac) (x1 := .slice sa S.mem.shared.length sc) (x2 := .slice oa S.out.length oc) (x3 := .int .i64 (S.rd : Int)) (x4 := .int .i64 (S.st : Int)) (x5 := .int .i64 S.err) HU.out HGE.out) (fun hHeld => ?_)
        clear hK K
        rename_i hOld
        clear hOld
        (try simp only [Act.put, pA, pB, pC, pD, pE, pF])
        clear y0 y1 y2 y3 y4 y5 f0 f1 f2 f3 f4 f5 hHeld
        refine wpAnyH_done (by kernel_rfl) ?_ _
        go_wp2_with fail
        go_meet
        exact ⟨w5.heap.size, aa, ac, sa, sc, oa, oc, rfl, set6_at HZ.out, HOU.out.stored HZ.out (fun k hk => set6_far hk), set6_below HU.out HGE.out⟩
    · go_simp
      refine hK.out _ _ (mem_then HHV.out (mem_alloc _ _)) (fun hHeld => ?_)
      clear hK K
      rename_i hOld
      clear hOld
      (try simp only [Act.put, pA, pB, pC, pD, pE, pF])
      have hz : (v1.alloc zRes).heap[v1.heap.size]? = some zRes := mem_new _ _
      have hzB := mem_alloc v1 zRes
      generalize hQ : v1.alloc zRes = Q at hz hzB hHeld ⊢
      clear hQ
      have HQZ := Lib.hid hz
      have HQB := Lib.hid hzB
      have HQV := Lib.hid (mem_then HHV.out hzB)
      clear hz hzB
      refine hR 0 rfl (fun K hK => ?_)
      go_simp
      refine (sample_any Q).mono ?_
      rintro e w5 ⟨ta2, tc2, rfl, hp5, hB5⟩
      have HP5 := Lib.hid hp5
      have HB5 := Lib.hid (mem_then HQV.out hB5)
      have HB5' := Lib.hid hB5
      clear hp5 hB5
      refine hK.out _ _ (HB5.out) (fun hHeld => ?_)
      clear hK K
      rename_i hOld
      clear hOld
      (try simp only [Act.put, pA, pB, pC, pD, pE, pF])
      refine hR 2 rfl (fun K hK => ?_)
      go_simp
      refine (job_any samP 0 samM [] 10 w5 none ta2 0 tc2 ma ms mac msc none 0 (HP5.out.below (Below.refl _ _)) (HMY.out.below HB5.out) words_none (HG.out.below (mem_then HBY.out HB5.out)) ⟨by decide, by decide⟩ (by decide) (by decide)).mono ?_
      rintro e w6 ⟨aa, ac, sa, sc, oa, oc, rfl, hra, hB6, _⟩
      rw [HS.out] at hra ⊢
      have HO6 := Lib.hid hra.out
      have HB6 := Lib.hid (mem_then HB5.out hB6)
      have HB6' := Lib.hid hB6
      clear hra hB6
      refine hK.out _ _ (HB6.out) (fun hHeld => ?_)
      clear hK K
      rename_i hOld
      clear hOld
      (try simp only [Act.put, pA, pB, pC, pD, pE, pF])
      have HU := HB6
      have HZ := Lib.hid (mem_keep (mem_keep HQZ.out HB5'.out) HB6'.out)
      have HOU := HO6
      have HGE : Hid (Y.heap.size ≤ v1.heap.size) := HHV.out.size
      obtain ⟨y0, y1, y2, y3, y4, y5⟩ := res_cells HZ.out
      have f0 := mem_free HZ.out 0
      have f1 := mem_free HZ.out 1
      have f2 := mem_free HZ.out 2
      have f3 := mem_free HZ.out 3
      have f4 := mem_free HZ.out 4
      have f5 := mem_free HZ.out 5
      refine hR 4 rfl (fun K hK => ?_)
      go_simp
      refine hK.out _ _ (set6_below (x0 := .slice aa S.mem.arrays.length ac) (x1 := .slice sa S.mem.shared.length sc) (x2 := .slice oa S.out.length oc) (x3 := .int .i64 (S.rd : Int)) (x4 := .int .i64 (S.st : Int)) (x5 := .int .i64 S.err) HU.out HGE.out) (fun hHeld => ?_)
      clear hK K
      rename_i hOld
      clear hOld
      (try simp only [Act.put, pA, pB, pC, pD, pE, pF])
      clear y0 y1 y2 y3 y4 y5 f0 f1 f2 f3 f4 f5 hHeld
      refine wpAnyH_done (by kernel_rfl) ?_ _
      go_wp2_with fail
      go_meet
      exact ⟨v1.heap.size, aa, ac, sa, sc, oa, oc, rfl, set6_at HZ.out, HOU.out.stored HZ.out (fun k hk => set6_far hk), set6_below HU.out HGE.out⟩
  case rest =>
  obtain ⟨b2, aa2, ac2, sa2, sc2, oa2, oc2, rfl, hx2, ho2, hBc⟩ := hcut
  have hx1 := mem_keep HX1.out hBc
  have ho1 := HO1.out.below hBc
  have HBE := Lib.hid (mem_then HBY.out hBc)
  obtain ⟨r1, r2, r3⟩ := sam_11
  obtain ⟨s1, s2, s3⟩ := sam_10
  rw [HR.out] at r1 r2 r3
  rw [HS.out] at s1 s2 s3
  obtain ⟨Rm, Ro, Rr, Rs, Re⟩ := R
  obtain ⟨Sm, So, Sr, Ss, Se⟩ := S
  simp only at r1 r2 r3 s1 s2 s3
  subst r1 r2 r3 s1 s2 s3
  obtain ⟨x0, x1, x2, x3, x4, x5⟩ := res_cells hx1
  obtain ⟨y0, y1, y2, y3, y4, y5⟩ := res_cells hx2
  obtain ⟨c, off, rfl, o1, o2⟩ := ho1.2 0 (1, 3) rfl
  have hbl := World.block_lt_of_cell? _ _ o1
  have o1 : wc.cell? ⟨c, off, none⟩ = some (.int .i64 1) := o1
  have o2 : wc.cell? ⟨c, off + 1, none⟩ = some (.int .i32 3) := by have h := o2; rw [show off + 0 * 2 + 1 = off + 1 by omega] at h; exact h
  have x2 : wc.cell? ⟨b1, 2, none⟩ = some (.slice (some ⟨c, off, none⟩) 1 oc1) := x2
  have x4 : wc.cell? ⟨b1, 4, none⟩ = some (.int .i64 11) := x4
  have x5 : wc.cell? ⟨b1, 5, none⟩ = some (.int .i64 0) := x5
  have y2 : wc.cell? ⟨b2, 2, none⟩ = some (.slice oa2 0 oc2) := y2
  have y4 : wc.cell? ⟨b2, 4, none⟩ = some (.int .i64 10) := y4
  have y5 : wc.cell? ⟨b2, 5, none⟩ = some (.int .i64 13) := y5
  have hcmp : ∀ W, (binOp .eql 80 (.agg #[.int .i64 1, .int .i32 3]) (.agg #[.int .i64 1, .int .i32 3])).run Tryd.prog W = .ok (.bool true) W := fun _ => by kernel_rfl
  clear hx1 hx2 ho1 ho2 hBc x0 x1 x3 y0 y1 y3
  go_wp2_with fail
  go_ret
  exact ⟨rfl, HBE.out⟩
end Go.Proofs.YtgochgcchkdlmaaDoor
