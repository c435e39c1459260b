/-
  The law InterpFuel (package ontimelaw16).
-/
import Derived.Test.YtgochgcchkdlmaaDoorInAwake
import Derived.Test.YtgochgcchkdlmaaDoorInRun
import Derived.Test.YtgochgcchkdlmaaDoorInEqs
import Derived.Test.YtgochgcchkdlmaaDoorInPlains
namespace Go.Proofs.YtgochgcchkdlmaaDoor
set_option linter.unusedVariables false
set_option linter.unusedSimpArgs false
open Go.RowKit Go.Maps
set_option maxRecDepth 100000
set_option maxHeartbeats 80000000

theorem jobP_run {p : Prg} {task : Int} {M : Mem} {inp : List Int} {F : Int} (h : runP p task M = true) : jobP p task M inp F = runR p task.toNat M ((p.tasks.getD task.toNat Tsk.none).body.ex F inp (jobS p task.toNat M)) := by
  unfold runP refFits at h
  simp only [Bool.and_eq_true, decide_eq_true_eq] at h
  obtain ⟨h1, h2, h3, h4, h5, h6⟩ := h
  unfold jobP
  rw [if_neg (by rw [h1]; decide), if_neg (by omega), if_neg ?_]
  have : fitsP p M = true := by
    unfold fitsP
    rw [h5, h6, (okP_parts h1).1, decide_eq_true h4]
    rfl
  rw [this]
  decide
theorem bigP_f {p : Prg} {M : Mem} {n : Nat} (h : bigP p M n = false) : n ≤ 40 := by
  unfold bigP at h
  simp only [Bool.or_eq_false_iff, decide_eq_false_iff_not] at h
  omega
/-- the law, plainly -/
theorem fuel_more {p : Prg} {task : Int} {M : Mem} {inp : List Int} (h : runP p task M = true) : ((jobP p task M inp 3000).err = 13 → (jobP p task M inp 3000).st = 3000) ∧
    ((jobP p task M inp 3000).err ≠ 13 → jobP p task M inp ((jobP p task M inp 3000).st : Int) = jobP p task M inp 3000 ∧
      ∀ k : Nat, k < (jobP p task M inp 3000).st → (jobP p task M inp k).err = 13 ∧ (jobP p task M inp k).st = k ∧ (jobP p task M inp k).rd ≤ (jobP p task M inp 3000).rd ∧ ∃ l, (jobP p task M inp 3000).out = (jobP p task M inp k).out ++ l) := by
  rw [jobP_run h]
  obtain ⟨i, hi⟩ : ∃ i, task.toNat = i := ⟨_, rfl⟩
  rw [hi]
  have h0 : ((jobS p i M).st : Int) = 0 := rfl
  obtain ⟨g1, g2, g3, g4, g5⟩ := ex_grows 3000 inp (p.tasks.getD i Tsk.none).body (jobS p i M)
  have hle := g5 (by rw [h0]; decide)
  refine ⟨fun h1 => ?_, fun h1 => ?_⟩
  · have := g4 h1
    show ((p.tasks.getD i Tsk.none).body.ex 3000 inp (jobS p i M)).1.st = 3000
    omega
  · have key : ∀ k : Nat, (k : Int) < 3000 → Rel k ((p.tasks.getD i Tsk.none).body.ex k inp (jobS p i M)) ((p.tasks.getD i Tsk.none).body.ex 3000 inp (jobS p i M)) := fun k hk => ex_rel hk inp _ _ (by rw [h0]; omega)
    obtain ⟨r, hr⟩ : ∃ r, (p.tasks.getD i Tsk.none).body.ex 3000 inp (jobS p i M) = r := ⟨_, rfl⟩
    rw [hr] at hle h1 key ⊢
    have h1 : r.2 ≠ 13 := h1
    refine ⟨?_, fun k hk => ?_⟩
    · rw [jobP_run h, hi]
      show runR p i M ((p.tasks.getD i Tsk.none).body.ex (r.1.st : Int) inp (jobS p i M)) = _
      by_cases he : (r.1.st : Int) = 3000
      · rw [he, hr]
      · rcases key r.1.st (by omega) with ⟨_, h3⟩ | ⟨_, _, _, _, h3⟩
        · rw [h3]
        · omega
    · have hk : k < r.1.st := hk
      rw [jobP_run h, hi]
      have hg := (ex_grows k inp (p.tasks.getD i Tsk.none).body (jobS p i M)).2.2.2.2 (by rw [h0]; omega)
      rcases key k (by omega) with ⟨_, h3⟩ | ⟨h2, h3, ⟨l, h4⟩, h5, _⟩
      · rw [h3] at hg; omega
      · exact ⟨h2, by show ((p.tasks.getD i Tsk.none).body.ex k inp (jobS p i M)).1.st = k; omega, h5, l, h4⟩
theorem fuel_le {p : Prg} {task : Int} {M : Mem} {inp : List Int} (h : runP p task M = true) : (jobP p task M inp 3000).st ≤ 3000 := by
  rw [jobP_run h]
  have h1 := (ex_grows 3000 inp (p.tasks.getD task.toNat Tsk.none).body (jobS p task.toNat M)).2.2.2.2 (by show ((0 : Nat) : Int) ≤ 3000; decide)
  show ((p.tasks.getD task.toNat Tsk.none).body.ex 3000 inp (jobS p task.toNat M)).1.st ≤ 3000
  omega
theorem OutAt.take {w : World} {a : Option Addr} {l : List (Int × Int)} (h : OutAt w a l) (n : Nat) : OutAt w a (l.take n) :=
  ⟨by have := h.1; rw [List.length_take]; omega, fun k x hx => h.2 k x (by
    rw [List.getElem?_take] at hx
    split at hx
    · exact hx
    · cases hx)⟩
theorem same_self (R : Res) (al : Bool) : sameP R R al = true := by unfold sameP; simp
theorem fuel_any (p : Prg) (task : Int) (M : Mem) (inp : List Int) (less : Int) (w : World) (sa ta : Option Addr) (sc tc : Nat) (ma ms : Option Addr) (mac msc : Nat) (ia : Option Addr) (ic : Nat)
    (hp : PrgAt w p sa ta) (hm : MemAt w M ma ms) (hi : WordsAt w ia inp) (hg : SignsIn w) (ht : isI64 task) (hl : 0 ≤ less ∧ less < 65536) :
    Calls Tryd.prog 5 #[p.val sa sc ta tc, .int .i64 task, M.val ma mac ms msc, .slice ia inp.length ic, .int .u16 less] w fun e w' => e = .returned (.bool true) ∧ Below w.heap.size w w' := by
  have hil := hi.fits
  obtain ⟨W, hW⟩ : ∃ W : World, w.alloc (prgObj p sa sc ta tc) = W := ⟨_, rfl⟩
  have hBW : Below w.heap.size w W := by rw [← hW]; exact mem_alloc _ _
  have hXW : W.heap[w.heap.size]? = some (prgObj p sa sc ta tc) := by rw [← hW]; exact mem_new _ _
  obtain ⟨W2, hW2⟩ : ∃ W2 : World, W.alloc (memObj M ma mac ms msc) = W2 := ⟨_, rfl⟩
  have hBW2 : Below W.heap.size W W2 := by rw [← hW2]; exact mem_alloc _ _
  have hXW2 : W2.heap[W.heap.size]? = some (memObj M ma mac ms msc) := by rw [← hW2]; exact mem_new _ _
  have HK : Hid (∀ w', Below W2.heap.size W2 w' → w'.heap[w.heap.size]? = some (prgObj p sa sc ta tc) ∧ w'.heap[W.heap.size]? = some (memObj M ma mac ms msc) ∧ PrgAt w' p sa ta ∧ MemAt w' M ma ms ∧ WordsAt w' ia inp ∧ SignsIn w' ∧ Below w.heap.size w w') := fun w' hw => by
    have hb := mem_then (mem_then hBW hBW2) hw
    exact ⟨mem_keep (mem_keep hXW hBW2) hw, mem_keep hXW2 hw, hp.below hb, hm.below hb, hi.below hb, hg.below hb, hb⟩
  have HAW := Lib.hid (awake_any W2 (HK.out W2 (Below.refl _ _)).2.2.2.2.2.1)
  have HT := Lib.hid ht
  have HL := Lib.hid hl
  clear hp hm hi hg hBW hXW hBW2 hXW2 ht hl
  go_enter Tryd.func5, Tryd.ntmps5
  go_wp2_with fail
  clear hW hW2
  refine HAW.out.mono ?_
  rintro e w1 ⟨rfl, hB1⟩
  have HB1 := Lib.hid hB1
  obtain ⟨hx1, hx2, hp1, hm1, _, _, _⟩ := HK.out w1 hB1
  obtain ⟨x0, x1⟩ := mem_two hx1
  obtain ⟨y0, y1⟩ := mem_two hx2
  have HGR := Lib.hid (great16_any p M inp.length w1 sa ta sc tc ma ms mac msc ia ic hp1 hm1 hil)
  clear HAW hB1 hx1 hx2 hp1 hm1
  go_wp2_with fail
  clear x0 x1 y0 y1
  refine HGR.out.mono ?_
  rintro e w2 ⟨rfl, hB2⟩
  have HB2 := Lib.hid (mem_then HB1.out hB2)
  clear HGR hB2
  cases hbig : bigP p M inp.length with
  | true =>
    have hbn := bigN_t hbig
    clear hbig
    go_wp2_with fail
    go_ret
    exact ⟨rfl, (HK.out w2 HB2.out).2.2.2.2.2.2⟩
  | false =>
  have hbn := bigN_f hbig
  have hn40 := bigP_f hbig
  obtain ⟨hx1, hx2, hp1, hm1, _, hg1, _⟩ := HK.out w2 HB2.out
  obtain ⟨x0, x1⟩ := mem_two hx1
  obtain ⟨y0, y1⟩ := mem_two hx2
  have HRN := Lib.hid (runnable_any p task M w2 sa ta sc tc ma ms mac msc hp1 hm1 hg1 HT.out)
  clear hbig hx1 hx2 hp1 hm1 hg1
  go_wp2_with fail
  clear x0 x1 y0 y1
  refine HRN.out.mono ?_
  rintro e w3 ⟨rfl, hB3⟩
  have HB3 := Lib.hid (mem_then HB2.out hB3)
  clear HRN hB3
  cases hrun : runP p task M with
  | false =>
    clear hrun
    go_wp2_with fail
    go_ret
    exact ⟨rfl, (HK.out w3 HB3.out).2.2.2.2.2.2⟩
  | true =>
  have HFM := Lib.hid (fuel_more (inp := inp) hrun)
  have HFL := Lib.hid (fuel_le (inp := inp) hrun)
  obtain ⟨hx1, hx2, hp1, hm1, hi1, hg1, _⟩ := HK.out w3 HB3.out
  obtain ⟨x0, x1⟩ := mem_two hx1
  obtain ⟨y0, y1⟩ := mem_two hx2
  have HJ := Lib.hid (job_any p task M inp 3000 w3 sa ta sc tc ma ms mac msc ia ic hp1 hm1 hi1 hg1 HT.out (by decide) (by omega))
  clear hrun hx1 hx2 hp1 hm1 hi1 hg1
  go_wp2_with fail
  clear x0 x1 y0 y1
  refine HJ.out.mono ?_
  rintro e w4 ⟨aa, ac, ra, rc, oa, oc, rfl, hra, hB4, hcap, _⟩
  obtain ⟨R, hR⟩ : ∃ R, jobP p task M inp 3000 = R := ⟨_, rfl⟩
  rw [hR] at hra hcap ⊢
  have HCAP := Lib.hid hcap
  clear hcap
  have HR := Lib.hid hR
  have HB4 := Lib.hid (mem_then HB3.out hB4)
  obtain ⟨V, hV⟩ : ∃ V : World, w4.alloc (Res.obj R aa ac ra rc oa oc) = V := ⟨_, rfl⟩
  have hBV : Below w4.heap.size w4 V := by rw [← hV]; exact mem_alloc _ _
  have HXV : Hid (V.heap[w4.heap.size]? = some (Res.obj R aa ac ra rc oa oc)) := by show _ = _; rw [← hV]; exact mem_new _ _
  have HBV := Lib.hid (mem_then HB4.out hBV)
  have HRA : Hid (ResAt V R aa ra oa) := ⟨hra.mem.below hBV, hra.out.below hBV⟩
  obtain ⟨x0, x1, x2, x3, x4, x5⟩ := res_cells HXV.out
  clear HJ hR hra hB4 hBV
  by_cases h13 : R.err = 13
  · have h3 : R.st = 3000 := by have h := HFM.out.1; rw [HR.out] at h; exact h h13
    have b1 : (R.err == 13) = true := by simpa using h13
    have b1' : decide (R.err = 13) = true := decide_eq_true h13
    have b2 : ((R.st : Int) == 3000) = true := by simp; omega
    have b2' : decide ((R.st : Int) = 3000) = true := decide_eq_true (by omega)
    clear h13 h3
    go_wp2_with fail
    go_ret
    exact ⟨rfl, (HK.out V HBV.out).2.2.2.2.2.2⟩
  · have b1 : (R.err == 13) = false := by simpa using h13
    have b1' : decide (R.err = 13) = false := decide_eq_false h13
    have HM2 : Hid (jobP p task M inp (R.st : Int) = R ∧ ∀ k : Nat, k < R.st → (jobP p task M inp k).err = 13 ∧ (jobP p task M inp k).st = k ∧ (jobP p task M inp k).rd ≤ R.rd ∧ ∃ l, R.out = (jobP p task M inp k).out ++ l) := by
      have h := HFM.out.2
      rw [HR.out] at h
      exact h h13
    clear h13
    go_upto_region 8 with fail
    clear x0 x1 x2 x3 x4 x5 hV
    have hst : R.st ≤ 3000 := by have h := HFL.out; rw [HR.out] at h; exact h
    have hD0 : Below V.heap.size V (World.drew V) := (Below.refl _ _).drew
    refine wp_region_held_drew (S := fun w' => Below V.heap.size V w') (by kernel_rfl) hD0 (fun hHeld => ?_)
    generalize hwd : World.drew V = v1 at hHeld hD0 ⊢
    clear hwd hD0
    have HHV := Lib.hid hHeld
    refine wpAnyH_take (i := 0) (v := R.val aa ac ra rc oa oc) rfl (by kernel_rfl) (by kernel_rfl) (by kernel_rfl) (fun _ _ _ h => h) (Or.inl ⟨by rfl, ?_⟩) (by assumption) ?_
    · intro w' hSw; obtain ⟨z0, z1, z2, z3, z4, z5⟩ := res_cells (mem_keep HXV.out hSw); go_simp
    (try simp only [Act.put, List.getElem_toArray, List.getElem_cons_zero, List.setIfInBounds_toArray, List.set_cons_zero, List.set_cons_succ])
    refine wpAnyH_take (i := 1) (v := p.val sa sc ta tc) rfl (by kernel_rfl) (by kernel_rfl) (by kernel_rfl) (fun _ _ _ h => h) (Or.inl ⟨by rfl, ?_⟩) (by assumption) ?_
    · intro w' hSw; obtain ⟨z0, z1⟩ := mem_two (HK.out _ (mem_then HBV.out hSw)).1; go_simp
    (try simp only [Act.put, List.getElem_toArray, List.getElem_cons_zero, List.getElem_cons_succ, List.setIfInBounds_toArray, List.set_cons_zero, List.set_cons_succ])
    refine wpAnyH_take (i := 2) (v := .int .i64 task) rfl (by kernel_rfl) (by kernel_rfl) (by kernel_rfl) (fun _ _ _ h => h) (Or.inl ⟨by rfl, ?_⟩) (by assumption) ?_
    · intro w' hSw; go_simp
    (try simp only [Act.put, List.getElem_toArray, List.getElem_cons_zero, List.getElem_cons_succ, List.setIfInBounds_toArray, List.set_cons_zero, List.set_cons_succ])
    refine wpAnyH_take (i := 3) (v := M.val ma mac ms msc) rfl (by kernel_rfl) (by kernel_rfl) (by kernel_rfl) (fun _ _ _ h => h) (Or.inl ⟨by rfl, ?_⟩) (by assumption) ?_
    · intro w' hSw; obtain ⟨z0, z1⟩ := mem_two (HK.out _ (mem_then HBV.out hSw)).2.1; go_simp
    (try simp only [Act.put, List.getElem_toArray, List.getElem_cons_zero, List.getElem_cons_succ, List.setIfInBounds_toArray, List.set_cons_zero, List.set_cons_succ])
    refine wpAnyH_take (i := 4) (v := .slice ia inp.length ic) rfl (by kernel_rfl) (by kernel_rfl) (by kernel_rfl) (fun _ _ _ h => h) (Or.inl ⟨by rfl, ?_⟩) (by assumption) ?_
    · intro w' hSw; go_simp
    (try simp only [Act.put, List.getElem_toArray, List.getElem_cons_zero, List.getElem_cons_succ, List.setIfInBounds_toArray, List.set_cons_zero, List.set_cons_succ])
    refine wpAnyH_take (i := 5) (v := .pointer (some ⟨w4.heap.size, 4, none⟩)) rfl (by kernel_rfl) (by kernel_rfl) (by kernel_rfl) (fun _ _ _ h => h) (Or.inl ⟨by rfl, ?_⟩) (by assumption) ?_
    · intro w' hSw; go_simp
    (try simp only [Act.put, List.getElem_toArray, List.getElem_cons_zero, List.getElem_cons_succ, List.setIfInBounds_toArray, List.set_cons_zero, List.set_cons_succ])
    refine wpAnyH_take (i := 6) (v := .int .i64 (R.st : Int)) rfl (by kernel_rfl) (by kernel_rfl) (by kernel_rfl) (fun _ _ _ h => h) (Or.inl ⟨by rfl, ?_⟩) (by assumption) ?_
    · intro w' hSw; obtain ⟨z0, z1, z2, z3, z4, z5⟩ := res_cells (mem_keep HXV.out hSw); go_simp
    (try simp only [Act.put, List.getElem_toArray, List.getElem_cons_zero, List.getElem_cons_succ, List.setIfInBounds_toArray, List.set_cons_zero, List.set_cons_succ])
    refine wpAnyH_ready (rs := [7]) (by kernel_rfl) (by simp) (AllReadyH.cons rfl (fun K hK => ?_) AllReadyH.nil)
    go_simp
    obtain ⟨_, _, hp1, hm1, hi1, hg1, _⟩ := HK.out v1 (mem_then HBV.out HHV.out)
    refine (job_any p task M inp (R.st : Int) v1 sa ta sc tc ma ms mac msc ia ic hp1 hm1 hi1 hg1 HT.out (by omega) (by omega)).mono ?_
    rintro e w5 ⟨ba, bc, ta', tc', oa', oc', rfl, hrb, hB5, _⟩
    rw [HM2.out.1] at hrb ⊢
    have HB5 := Lib.hid (mem_then HHV.out hB5)
    have HRA5 : Hid (ResAt w5 R aa ra oa) := ⟨HRA.out.mem.below HB5.out, HRA.out.out.below HB5.out⟩
    have HRB := Lib.hid hrb
    clear hp1 hm1 hi1 hg1 hrb hB5
    refine hK.out _ _ (HB5.out) (fun hHeld => ?_)
    clear hK K
    rename_i hOld
    clear hOld
    (try simp only [Act.put, List.getElem_toArray, List.getElem_cons_zero, List.getElem_cons_succ, List.setIfInBounds_toArray, List.set_cons_zero, List.set_cons_succ])
    refine wpAnyH_ready (rs := [8]) (by kernel_rfl) (by simp) (AllReadyH.cons rfl (fun K hK => ?_) AllReadyH.nil)
    go_simp
    refine (same_any R R true w5 aa ra oa ba ta' oa' ac rc oc bc tc' oc' HRA5.out HRB.out).mono ?_
    rintro e w6 ⟨rfl, hB6⟩
    rw [same_self]
    have HB6 := Lib.hid (mem_then HB5.out hB6)
    clear hB6
    refine hK.out _ _ (HB6.out) (fun hHeld => ?_)
    clear hK K
    rename_i hOld
    clear hOld
    (try simp only [Act.put, List.getElem_toArray, List.getElem_cons_zero, List.getElem_cons_succ, List.setIfInBounds_toArray, List.set_cons_zero, List.set_cons_succ])
    refine wpAnyH_take (i := 9) (v := .bool false) rfl (by kernel_rfl) (by kernel_rfl) (by kernel_rfl) (fun _ _ _ h => h) (Or.inl ⟨by rfl, ?_⟩) (by assumption) ?_
    · intro w' hSw; go_simp
    (try simp only [Act.put, List.getElem_toArray, List.getElem_cons_zero, List.getElem_cons_succ, List.setIfInBounds_toArray, List.set_cons_zero, List.set_cons_succ])
    clear hHeld
    refine wpAnyH_done (by kernel_rfl) ?_ _
    obtain ⟨x0, x1, x2, x3, x4, x5⟩ := res_cells (mem_keep HXV.out HB6.out)
    by_cases h0 : R.st = 0
    · have b3 : ((R.st : Int) == 0) = true := by simp; omega
      have b3' : decide ((R.st : Int) = 0) = true := decide_eq_true (by omega)
      clear h0
      go_wp2_with fail
      go_ret
      exact ⟨rfl, (HK.out w6 (mem_then HBV.out HB6.out)).2.2.2.2.2.2⟩
    · have b3 : ((R.st : Int) == 0) = false := by simp; omega
      have b3' : decide ((R.st : Int) = 0) = false := decide_eq_false (by omega)
      have hne : (R.st : Int) ≠ 0 := by omega
      have hl0 := HL.out.1
      have hl1 := HL.out.2
      obtain ⟨k, hk⟩ : ∃ k : Nat, less % (R.st : Int) = (k : Int) := ⟨(less % (R.st : Int)).toNat, by have := Int.emod_nonneg less hne; omega⟩
      have hkl : k < R.st := by have := Int.emod_lt_of_pos less (show (0 : Int) < (R.st : Int) by omega); omega
      obtain ⟨hx1, hx2, hp1, hm1, hi1, hg1, _⟩ := HK.out w6 (mem_then HBV.out HB6.out)
      obtain ⟨y0, y1⟩ := mem_two hx1
      obtain ⟨z0, z1⟩ := mem_two hx2
      have HJ2 := Lib.hid (job_any p task M inp (k : Int) w6 sa ta sc tc ma ms mac msc ia ic hp1 hm1 hi1 hg1 HT.out (by omega) (by omega))
      have HQ2 := Lib.hid (HM2.out.2 k hkl)
      have hk0 : (0 : Int) ≤ (k : Int) := by omega
      clear hx1 hx2 hp1 hm1 hi1 hg1
      go_wp2_with fail
      clear y0 y1 z0 z1 x0 x1 x2 x3 x4 x5
      refine HJ2.out.mono ?_
      rintro e w7 ⟨ba2, bc2, ta2, tc2, oa2, oc2, rfl, hra2, hB7, _⟩
      obtain ⟨T, hT⟩ : ∃ T, jobP p task M inp (k : Int) = T := ⟨_, rfl⟩
      rw [hT] at hra2 ⊢
      obtain ⟨j1, j2, j3, jl, j4⟩ : T.err = 13 ∧ T.st = k ∧ T.rd ≤ R.rd ∧ ∃ l, R.out = T.out ++ l := by have h := HQ2.out; rw [hT] at h; exact h
      obtain ⟨X, hX⟩ : ∃ X : World, w7.alloc (Res.obj T ba2 bc2 ta2 tc2 oa2 oc2) = X := ⟨_, rfl⟩
      have hBX : Below w7.heap.size w7 X := by rw [← hX]; exact mem_alloc _ _
      have HXX : Hid (X.heap[w7.heap.size]? = some (Res.obj T ba2 bc2 ta2 tc2 oa2 oc2)) := by show _ = _; rw [← hX]; exact mem_new _ _
      have HBX := Lib.hid (mem_then HB6.out (mem_then hB7 hBX))
      have HOT := Lib.hid (hra2.out.below hBX)
      have hlen : (T.out.length : Int) ≤ (R.out.length : Int) := by rw [j4, List.length_append]; omega
      have hlc : (T.out.length : Int) ≤ (oc : Int) := by have := HCAP.out; omega
      have hrd : (T.rd : Int) ≤ (R.rd : Int) := by omega
      have HTK : Hid (R.out.take T.out.length = T.out) := by show _ = _; rw [j4, List.take_left']; rfl
      have HJ1 := Lib.hid j1
      have HJ22 := Lib.hid j2
      clear HJ2 hT hra2 hB7 hBX j1 j2 j4 j3 HQ2
      go_upto_region 14 with fail
      try rw [hX]
      clear hX
      have hD0 : Below X.heap.size X (World.drew X) := (Below.refl _ _).drew
      refine wp_region_held_drew (S := fun w' => Below X.heap.size X w') (by kernel_rfl) hD0 (fun hHeld => ?_)
      generalize hwd : World.drew X = v2 at hHeld hD0 ⊢
      clear hwd hD0
      have HHX := Lib.hid hHeld
      have c1 : (T.err == 13) = true := by simpa using HJ1.out
      have c1' : decide (T.err = 13) = true := decide_eq_true HJ1.out
      have c2 : ((T.st : Int) == (k : Int)) = true := by have := HJ22.out; simp; omega
      have c2' : decide ((T.st : Int) = (k : Int)) = true := decide_eq_true (by have := HJ22.out; omega)
      have c3 : decide ((T.rd : Int) ≤ (R.rd : Int)) = true := decide_eq_true hrd
      have c4 : decide ((T.out.length : Int) ≤ (R.out.length : Int)) = true := decide_eq_true hlen
      refine wpAnyH_take (i := 0) (v := .pointer (some ⟨w7.heap.size, 5, none⟩)) rfl (by kernel_rfl) (by kernel_rfl) (by kernel_rfl) (fun _ _ _ h => h) (Or.inl ⟨by rfl, ?_⟩) (by assumption) ?_
      · intro w' hSw; go_simp
      (try simp only [Act.put, List.getElem_toArray, List.getElem_cons_zero, List.setIfInBounds_toArray, List.set_cons_zero, List.set_cons_succ])
      refine wpAnyH_take (i := 1) (v := .int .i64 T.err) rfl (by kernel_rfl) (by kernel_rfl) (by kernel_rfl) (fun _ _ _ h => h) (Or.inl ⟨by rfl, ?_⟩) (by assumption) ?_
      · intro w' hSw; obtain ⟨z0, z1, z2, z3, z4, z5⟩ := res_cells (mem_keep HXX.out hSw); go_simp
      (try simp only [Act.put, List.getElem_toArray, List.getElem_cons_zero, List.getElem_cons_succ, List.setIfInBounds_toArray, List.set_cons_zero, List.set_cons_succ])
      refine wpAnyH_take (i := 2) (v := .bool true) rfl (by kernel_rfl) (by kernel_rfl) (by kernel_rfl) (fun _ _ _ h => h) (Or.inl ⟨by rfl, ?_⟩) (by assumption) ?_
      · intro w' hSw; go_simp
      (try simp only [Act.put, List.getElem_toArray, List.getElem_cons_zero, List.getElem_cons_succ, List.setIfInBounds_toArray, List.set_cons_zero, List.set_cons_succ])
      refine wpAnyH_take (i := 3) (v := .bool true) rfl (by kernel_rfl) (by kernel_rfl) (by kernel_rfl) (fun _ _ _ h => h) (Or.inl ⟨by rfl, ?_⟩) (by assumption) ?_
      · intro w' hSw; go_simp
      (try simp only [Act.put, List.getElem_toArray, List.getElem_cons_zero, List.getElem_cons_succ, List.setIfInBounds_toArray, List.set_cons_zero, List.set_cons_succ])
      refine wpAnyH_take (i := 4) (v := .pointer (some ⟨w7.heap.size, 4, none⟩)) rfl (by kernel_rfl) (by kernel_rfl) (by kernel_rfl) (fun _ _ _ h => h) (Or.inl ⟨by rfl, ?_⟩) (by assumption) ?_
      · intro w' hSw; go_simp
      (try simp only [Act.put, List.getElem_toArray, List.getElem_cons_zero, List.getElem_cons_succ, List.setIfInBounds_toArray, List.set_cons_zero, List.set_cons_succ])
      refine wpAnyH_take (i := 5) (v := .int .i64 (T.st : Int)) rfl (by kernel_rfl) (by kernel_rfl) (by kernel_rfl) (fun _ _ _ h => h) (Or.inl ⟨by rfl, ?_⟩) (by assumption) ?_
      · intro w' hSw; obtain ⟨z0, z1, z2, z3, z4, z5⟩ := res_cells (mem_keep HXX.out hSw); go_simp
      (try simp only [Act.put, List.getElem_toArray, List.getElem_cons_zero, List.getElem_cons_succ, List.setIfInBounds_toArray, List.set_cons_zero, List.set_cons_succ])
      refine wpAnyH_take (i := 6) (v := .int .i64 (k : Int)) rfl (by kernel_rfl) (by kernel_rfl) (by kernel_rfl) (fun _ _ _ h => h) (Or.inl ⟨by rfl, ?_⟩) (by assumption) ?_
      · intro w' hSw; go_simp
      (try simp only [Act.put, List.getElem_toArray, List.getElem_cons_zero, List.getElem_cons_succ, List.setIfInBounds_toArray, List.set_cons_zero, List.set_cons_succ])
      refine wpAnyH_take (i := 7) (v := .bool true) rfl (by kernel_rfl) (by kernel_rfl) (by kernel_rfl) (fun _ _ _ h => h) (Or.inl ⟨by rfl, ?_⟩) (by assumption) ?_
      · intro w' hSw; go_simp
      (try simp only [Act.put, List.getElem_toArray, List.getElem_cons_zero, List.getElem_cons_succ, List.setIfInBounds_toArray, List.set_cons_zero, List.set_cons_succ])
      refine wpAnyH_take (i := 8) (v := .bool true) rfl (by kernel_rfl) (by kernel_rfl) (by kernel_rfl) (fun _ _ _ h => h) (Or.inl ⟨by rfl, ?_⟩) (by assumption) ?_
      · intro w' hSw; go_simp
      (try simp only [Act.put, List.getElem_toArray, List.getElem_cons_zero, List.getElem_cons_succ, List.setIfInBounds_toArray, List.set_cons_zero, List.set_cons_succ])
      refine wpAnyH_take (i := 9) (v := .bool true) rfl (by kernel_rfl) (by kernel_rfl) (by kernel_rfl) (fun _ _ _ h => h) (Or.inl ⟨by rfl, ?_⟩) (by assumption) ?_
      · intro w' hSw; go_simp
      (try simp only [Act.put, List.getElem_toArray, List.getElem_cons_zero, List.getElem_cons_succ, List.setIfInBounds_toArray, List.set_cons_zero, List.set_cons_succ])
      refine wpAnyH_take (i := 10) (v := .pointer (some ⟨w7.heap.size, 3, none⟩)) rfl (by kernel_rfl) (by kernel_rfl) (by kernel_rfl) (fun _ _ _ h => h) (Or.inl ⟨by rfl, ?_⟩) (by assumption) ?_
      · intro w' hSw; go_simp
      (try simp only [Act.put, List.getElem_toArray, List.getElem_cons_zero, List.getElem_cons_succ, List.setIfInBounds_toArray, List.set_cons_zero, List.set_cons_succ])
      refine wpAnyH_take (i := 11) (v := .int .i64 (T.rd : Int)) rfl (by kernel_rfl) (by kernel_rfl) (by kernel_rfl) (fun _ _ _ h => h) (Or.inl ⟨by rfl, ?_⟩) (by assumption) ?_
      · intro w' hSw; obtain ⟨z0, z1, z2, z3, z4, z5⟩ := res_cells (mem_keep HXX.out hSw); go_simp
      (try simp only [Act.put, List.getElem_toArray, List.getElem_cons_zero, List.getElem_cons_succ, List.setIfInBounds_toArray, List.set_cons_zero, List.set_cons_succ])
      refine wpAnyH_take (i := 12) (v := .pointer (some ⟨w4.heap.size, 3, none⟩)) rfl (by kernel_rfl) (by kernel_rfl) (by kernel_rfl) (fun _ _ _ h => h) (Or.inl ⟨by rfl, ?_⟩) (by assumption) ?_
      · intro w' hSw; go_simp
      (try simp only [Act.put, List.getElem_toArray, List.getElem_cons_zero, List.getElem_cons_succ, List.setIfInBounds_toArray, List.set_cons_zero, List.set_cons_succ])
      refine wpAnyH_take (i := 13) (v := .int .i64 (R.rd : Int)) rfl (by kernel_rfl) (by kernel_rfl) (by kernel_rfl) (fun _ _ _ h => h) (Or.inl ⟨by rfl, ?_⟩) (by assumption) ?_
      · intro w' hSw; obtain ⟨z0, z1, z2, z3, z4, z5⟩ := res_cells (mem_keep HXV.out (mem_then HBX.out hSw)); go_simp
      (try simp only [Act.put, List.getElem_toArray, List.getElem_cons_zero, List.getElem_cons_succ, List.setIfInBounds_toArray, List.set_cons_zero, List.set_cons_succ])
      refine wpAnyH_take (i := 14) (v := .bool true) rfl (by kernel_rfl) (by kernel_rfl) (by kernel_rfl) (fun _ _ _ h => h) (Or.inl ⟨by rfl, ?_⟩) (by assumption) ?_
      · intro w' hSw; go_simp
      (try simp only [Act.put, List.getElem_toArray, List.getElem_cons_zero, List.getElem_cons_succ, List.setIfInBounds_toArray, List.set_cons_zero, List.set_cons_succ])
      refine wpAnyH_take (i := 15) (v := .bool true) rfl (by kernel_rfl) (by kernel_rfl) (by kernel_rfl) (fun _ _ _ h => h) (Or.inl ⟨by rfl, ?_⟩) (by assumption) ?_
      · intro w' hSw; go_simp
      (try simp only [Act.put, List.getElem_toArray, List.getElem_cons_zero, List.getElem_cons_succ, List.setIfInBounds_toArray, List.set_cons_zero, List.set_cons_succ])
      refine wpAnyH_take (i := 16) (v := .bool true) rfl (by kernel_rfl) (by kernel_rfl) (by kernel_rfl) (fun _ _ _ h => h) (Or.inl ⟨by rfl, ?_⟩) (by assumption) ?_
      · intro w' hSw; go_simp
      (try simp only [Act.put, List.getElem_toArray, List.getElem_cons_zero, List.getElem_cons_succ, List.setIfInBounds_toArray, List.set_cons_zero, List.set_cons_succ])
      refine wpAnyH_take (i := 17) (v := .pointer (some ⟨w7.heap.size, 2, none⟩)) rfl (by kernel_rfl) (by kernel_rfl) (by kernel_rfl) (fun _ _ _ h => h) (Or.inl ⟨by rfl, ?_⟩) (by assumption) ?_
      · intro w' hSw; go_simp
      (try simp only [Act.put, List.getElem_toArray, List.getElem_cons_zero, List.getElem_cons_succ, List.setIfInBounds_toArray, List.set_cons_zero, List.set_cons_succ])
      refine wpAnyH_take (i := 18) (v := .slice oa2 T.out.length oc2) rfl (by kernel_rfl) (by kernel_rfl) (by kernel_rfl) (fun _ _ _ h => h) (Or.inl ⟨by rfl, ?_⟩) (by assumption) ?_
      · intro w' hSw; obtain ⟨z0, z1, z2, z3, z4, z5⟩ := res_cells (mem_keep HXX.out hSw); go_simp
      (try simp only [Act.put, List.getElem_toArray, List.getElem_cons_zero, List.getElem_cons_succ, List.setIfInBounds_toArray, List.set_cons_zero, List.set_cons_succ])
      refine wpAnyH_take (i := 19) (v := .int .i64 (T.out.length : Int)) rfl (by kernel_rfl) (by kernel_rfl) (by kernel_rfl) (fun _ _ _ h => h) (Or.inl ⟨by rfl, ?_⟩) (by assumption) ?_
      · intro w' hSw; go_simp
      (try simp only [Act.put, List.getElem_toArray, List.getElem_cons_zero, List.getElem_cons_succ, List.setIfInBounds_toArray, List.set_cons_zero, List.set_cons_succ])
      refine wpAnyH_take (i := 20) (v := .pointer (some ⟨w4.heap.size, 2, none⟩)) rfl (by kernel_rfl) (by kernel_rfl) (by kernel_rfl) (fun _ _ _ h => h) (Or.inl ⟨by rfl, ?_⟩) (by assumption) ?_
      · intro w' hSw; go_simp
      (try simp only [Act.put, List.getElem_toArray, List.getElem_cons_zero, List.getElem_cons_succ, List.setIfInBounds_toArray, List.set_cons_zero, List.set_cons_succ])
      refine wpAnyH_take (i := 21) (v := .slice oa R.out.length oc) rfl (by kernel_rfl) (by kernel_rfl) (by kernel_rfl) (fun _ _ _ h => h) (Or.inl ⟨by rfl, ?_⟩) (by assumption) ?_
      · intro w' hSw; obtain ⟨z0, z1, z2, z3, z4, z5⟩ := res_cells (mem_keep HXV.out (mem_then HBX.out hSw)); go_simp
      (try simp only [Act.put, List.getElem_toArray, List.getElem_cons_zero, List.getElem_cons_succ, List.setIfInBounds_toArray, List.set_cons_zero, List.set_cons_succ])
      refine wpAnyH_take (i := 22) (v := .int .i64 (R.out.length : Int)) rfl (by kernel_rfl) (by kernel_rfl) (by kernel_rfl) (fun _ _ _ h => h) (Or.inl ⟨by rfl, ?_⟩) (by assumption) ?_
      · intro w' hSw; go_simp
      (try simp only [Act.put, List.getElem_toArray, List.getElem_cons_zero, List.getElem_cons_succ, List.setIfInBounds_toArray, List.set_cons_zero, List.set_cons_succ])
      refine wpAnyH_take (i := 23) (v := .bool true) rfl (by kernel_rfl) (by kernel_rfl) (by kernel_rfl) (fun _ _ _ h => h) (Or.inl ⟨by rfl, ?_⟩) (by assumption) ?_
      · intro w' hSw; go_simp
      (try simp only [Act.put, List.getElem_toArray, List.getElem_cons_zero, List.getElem_cons_succ, List.setIfInBounds_toArray, List.set_cons_zero, List.set_cons_succ])
      refine wpAnyH_take (i := 24) (v := .bool true) rfl (by kernel_rfl) (by kernel_rfl) (by kernel_rfl) (fun _ _ _ h => h) (Or.inl ⟨by rfl, ?_⟩) (by assumption) ?_
      · intro w' hSw; go_simp
      (try simp only [Act.put, List.getElem_toArray, List.getElem_cons_zero, List.getElem_cons_succ, List.setIfInBounds_toArray, List.set_cons_zero, List.set_cons_succ])
      refine wpAnyH_take (i := 25) (v := .bool true) rfl (by kernel_rfl) (by kernel_rfl) (by kernel_rfl) (fun _ _ _ h => h) (Or.inl ⟨by rfl, ?_⟩) (by assumption) ?_
      · intro w' hSw; go_simp
      (try simp only [Act.put, List.getElem_toArray, List.getElem_cons_zero, List.getElem_cons_succ, List.setIfInBounds_toArray, List.set_cons_zero, List.set_cons_succ])
      refine wpAnyH_take (i := 26) (v := .pointer (some ⟨w7.heap.size, 2, none⟩)) rfl (by kernel_rfl) (by kernel_rfl) (by kernel_rfl) (fun _ _ _ h => h) (Or.inl ⟨by rfl, ?_⟩) (by assumption) ?_
      · intro w' hSw; go_simp
      (try simp only [Act.put, List.getElem_toArray, List.getElem_cons_zero, List.getElem_cons_succ, List.setIfInBounds_toArray, List.set_cons_zero, List.set_cons_succ])
      refine wpAnyH_take (i := 27) (v := .slice oa2 T.out.length oc2) rfl (by kernel_rfl) (by kernel_rfl) (by kernel_rfl) (fun _ _ _ h => h) (Or.inl ⟨by rfl, ?_⟩) (by assumption) ?_
      · intro w' hSw; obtain ⟨z0, z1, z2, z3, z4, z5⟩ := res_cells (mem_keep HXX.out hSw); go_simp
      (try simp only [Act.put, List.getElem_toArray, List.getElem_cons_zero, List.getElem_cons_succ, List.setIfInBounds_toArray, List.set_cons_zero, List.set_cons_succ])
      refine wpAnyH_take (i := 28) (v := .pointer (some ⟨w4.heap.size, 2, none⟩)) rfl (by kernel_rfl) (by kernel_rfl) (by kernel_rfl) (fun _ _ _ h => h) (Or.inl ⟨by rfl, ?_⟩) (by assumption) ?_
      · intro w' hSw; go_simp
      (try simp only [Act.put, List.getElem_toArray, List.getElem_cons_zero, List.getElem_cons_succ, List.setIfInBounds_toArray, List.set_cons_zero, List.set_cons_succ])
      refine wpAnyH_take (i := 29) (v := .slice oa R.out.length oc) rfl (by kernel_rfl) (by kernel_rfl) (by kernel_rfl) (fun _ _ _ h => h) (Or.inl ⟨by rfl, ?_⟩) (by assumption) ?_
      · intro w' hSw; obtain ⟨z0, z1, z2, z3, z4, z5⟩ := res_cells (mem_keep HXV.out (mem_then HBX.out hSw)); go_simp
      (try simp only [Act.put, List.getElem_toArray, List.getElem_cons_zero, List.getElem_cons_succ, List.setIfInBounds_toArray, List.set_cons_zero, List.set_cons_succ])
      refine wpAnyH_take (i := 30) (v := .pointer (some ⟨w7.heap.size, 2, none⟩)) rfl (by kernel_rfl) (by kernel_rfl) (by kernel_rfl) (fun _ _ _ h => h) (Or.inl ⟨by rfl, ?_⟩) (by assumption) ?_
      · intro w' hSw; go_simp
      (try simp only [Act.put, List.getElem_toArray, List.getElem_cons_zero, List.getElem_cons_succ, List.setIfInBounds_toArray, List.set_cons_zero, List.set_cons_succ])
      refine wpAnyH_take (i := 31) (v := .slice oa2 T.out.length oc2) rfl (by kernel_rfl) (by kernel_rfl) (by kernel_rfl) (fun _ _ _ h => h) (Or.inl ⟨by rfl, ?_⟩) (by assumption) ?_
      · intro w' hSw; obtain ⟨z0, z1, z2, z3, z4, z5⟩ := res_cells (mem_keep HXX.out hSw); go_simp
      (try simp only [Act.put, List.getElem_toArray, List.getElem_cons_zero, List.getElem_cons_succ, List.setIfInBounds_toArray, List.set_cons_zero, List.set_cons_succ])
      refine wpAnyH_take (i := 32) (v := .int .i64 (T.out.length : Int)) rfl (by kernel_rfl) (by kernel_rfl) (by kernel_rfl) (fun _ _ _ h => h) (Or.inl ⟨by rfl, ?_⟩) (by assumption) ?_
      · intro w' hSw; go_simp
      (try simp only [Act.put, List.getElem_toArray, List.getElem_cons_zero, List.getElem_cons_succ, List.setIfInBounds_toArray, List.set_cons_zero, List.set_cons_succ])
      refine wpAnyH_take (i := 33) (v := .slice oa T.out.length oc) rfl (by kernel_rfl) (by kernel_rfl) (by kernel_rfl) (fun _ _ _ h => h) (Or.inl ⟨by rfl, ?_⟩) (by assumption) ?_
      · intro w' hSw; go_simp
      (try simp only [Act.put, List.getElem_toArray, List.getElem_cons_zero, List.getElem_cons_succ, List.setIfInBounds_toArray, List.set_cons_zero, List.set_cons_succ])
      have hoR : OutAt v2 oa T.out := by
        have h := (HRA.out.out.below (mem_then HBX.out HHX.out)).take T.out.length
        rw [HTK.out] at h
        exact h
      have HO9 := Lib.hid (outputs_any T.out T.out oa2 oa oc2 oc v2 (HOT.out.below HHX.out) hoR)
      clear hoR
      refine wpAnyH_ready (rs := [34]) (by kernel_rfl) (by simp) (AllReadyH.cons rfl (fun K hK => ?_) AllReadyH.nil)
      go_simp
      refine HO9.out.mono ?_
      rintro e w9 ⟨rfl, hB9⟩
      have hdt : decide (T.out = T.out) = true := decide_eq_true rfl
      have HB9 := Lib.hid (mem_then HHX.out hB9)
      clear hB9
      refine hK.out _ _ (HB9.out) (fun hHeld => ?_)
      clear hK K
      rename_i hOld
      clear hOld
      (try simp only [Act.put, List.getElem_toArray, List.getElem_cons_zero, List.getElem_cons_succ, List.setIfInBounds_toArray, List.set_cons_zero, List.set_cons_succ])
      refine wpAnyH_take (i := 35) (v := .bool true) rfl (by kernel_rfl) (by kernel_rfl) (by kernel_rfl) (fun _ _ _ h => h) (Or.inl ⟨by rfl, ?_⟩) (by assumption) ?_
      · intro w' hSw; go_simp
      (try simp only [Act.put, List.getElem_toArray, List.getElem_cons_zero, List.getElem_cons_succ, List.setIfInBounds_toArray, List.set_cons_zero, List.set_cons_succ])
      refine wpAnyH_take (i := 36) (v := .bool true) rfl (by kernel_rfl) (by kernel_rfl) (by kernel_rfl) (fun _ _ _ h => h) (Or.inl ⟨by rfl, ?_⟩) (by assumption) ?_
      · intro w' hSw; go_simp
      (try simp only [Act.put, List.getElem_toArray, List.getElem_cons_zero, List.getElem_cons_succ, List.setIfInBounds_toArray, List.set_cons_zero, List.set_cons_succ])
      clear hHeld
      refine wpAnyH_done (by kernel_rfl) ?_ _
      go_wp2_with fail
      go_ret
      exact ⟨rfl, (HK.out w9 (mem_then HBV.out (mem_then HBX.out HB9.out))).2.2.2.2.2.2⟩
end Go.Proofs.YtgochgcchkdlmaaDoor
