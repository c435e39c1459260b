/-
  The law InterpInput (package ontimelaw16).
-/
import Derived.Test.YtgochgcchkdlmaaDoorInLawFuel
import Derived.Test.YtgochgcchkdlmaaDoorInPlains
namespace Go.Proofs.YtgochgcchkdlmaaDoor
set_option linter.unusedVariables false
set_option linter.unusedSimpArgs false
open Go.RowKit Go.Maps
set_option maxRecDepth 100000
set_option maxHeartbeats 80000000

/-! ### the law, plainly -/
theorem jobP_alike {p : Prg} {task : Int} {M : Mem} {inp inp' : List Int} {F : Int} (h : runP p task M = true) (ha : Alike inp inp' 0 (jobP p task M inp F).rd) : jobP p task M inp' F = jobP p task M inp F := by
  rw [jobP_run h] at ha
  rw [jobP_run h, jobP_run h]
  exact congrArg _ ((ex_rdS F inp inp' _ _).2 ha)
theorem alike_zeros {inp : List Int} {n : Nat} : Alike inp (inp ++ [0, 0, 0]) 0 n := fun k _ _ => by
  rw [List.getD_eq_getElem?_getD, List.getD_eq_getElem?_getD]
  by_cases h : k < inp.length
  · rw [List.getElem?_append_left h]
  · rw [List.getElem?_append_right (by omega), List.getElem?_eq_none (show inp.length ≤ k by omega)]
    obtain ⟨j, hj⟩ : ∃ j, k - inp.length = j := ⟨_, rfl⟩
    rw [hj]
    match j with
    | 0 => rfl
    | 1 => rfl
    | 2 => rfl
    | j + 3 => rfl
theorem alike_more {inp more : List Int} {n : Nat} (h : n ≤ inp.length) : Alike inp (inp.take n ++ more) 0 n := fun k _ hk => by
  rw [List.getD_eq_getElem?_getD, List.getD_eq_getElem?_getD, List.getElem?_append_left (by rw [List.length_take]; omega), List.getElem?_take, if_pos hk]
theorem WordsAt.take {w : World} {a : Option Addr} {l : List Int} (h : WordsAt w a l) (n : Nat) : WordsAt w a (l.take n) :=
  ⟨by have := h.fits; rw [List.length_take]; omega, fun x hx => h.words x (List.mem_of_mem_take hx), by
    rcases h.at_ with h0 | ⟨b, off, ha, hk⟩
    · exact .inl (by rw [List.length_take]; omega)
    · exact .inr ⟨b, off, ha, fun k x hx => hk k x (by
        rw [List.getElem?_take] at hx
        split at hx
        · exact hx
        · cases hx)⟩⟩
theorem word_0 : ∀ x ∈ [(0 : Int), 0, 0], Wd.W x := by
  intro x hx
  simp at hx
  subst hx
  unfold Wd.W
  omega
theorem words_app {l m : List Int} (h1 : ∀ x ∈ l, Wd.W x) (h2 : ∀ x ∈ m, Wd.W x) : ∀ x ∈ l ++ m, Wd.W x := fun x hx => by
  rcases List.mem_append.1 hx with h | h
  · exact h1 x h
  · exact h2 x h
theorem i32s_app (l m : List Int) : i32s l ++ i32s m = i32s (l ++ m) := by unfold i32s; rw [List.map_append]
theorem input_any (p : Prg) (task : Int) (M : Mem) (inp more : List Int) (w : World) (sa ta : Option Addr) (sc tc : Nat) (ma ms : Option Addr) (mac msc : Nat) (ia ja : Option Addr) (ic jc : Nat)
    (hp : PrgAt w p sa ta) (hm : MemAt w M ma ms) (hi : WordsAt w ia inp) (hic : inp.length ≤ ic) (hj : WordsAt w ja more) (hg : SignsIn w) (ht : isI64 task) :
    Calls Tryd.prog 6 #[p.val sa sc ta tc, .int .i64 task, M.val ma mac ms msc, .slice ia inp.length ic, .slice ja more.length jc] w fun e w' => e = .returned (.bool true) ∧ Below w.heap.size w w' := by
  obtain ⟨i0, hi0, hz0, hz1, hz2⟩ := info_parts i32_info
  have hil := hi.fits
  have hjl := hj.fits
  obtain ⟨W, hW⟩ : ∃ W : World, w.alloc (prgObj p sa sc ta tc) = W := ⟨_, rfl⟩
  have hBW : Below w.heap.size w W := by rw [← hW]; exact mem_alloc _ _
  have hXW : W.heap[w.heap.size]? = some (prgObj p sa sc ta tc) := by rw [← hW]; exact mem_new _ _
  obtain ⟨W2, hW2⟩ : ∃ W2 : World, W.alloc (memObj M ma mac ms msc) = W2 := ⟨_, rfl⟩
  have hBW2 : Below W.heap.size W W2 := by rw [← hW2]; exact mem_alloc _ _
  have hXW2 : W2.heap[W.heap.size]? = some (memObj M ma mac ms msc) := by rw [← hW2]; exact mem_new _ _
  have HK : Hid (∀ w', Below W2.heap.size W2 w' → w'.heap[w.heap.size]? = some (prgObj p sa sc ta tc) ∧ w'.heap[W.heap.size]? = some (memObj M ma mac ms msc) ∧ PrgAt w' p sa ta ∧ MemAt w' M ma ms ∧ WordsAt w' ia inp ∧ WordsAt w' ja more ∧ SignsIn w' ∧ Below w.heap.size w w') := fun w' hw => by
    have hb := mem_then (mem_then hBW hBW2) hw
    exact ⟨mem_keep (mem_keep hXW hBW2) hw, mem_keep hXW2 hw, hp.below hb, hm.below hb, hi.below hb, hj.below hb, hg.below hb, hb⟩
  have HAW := Lib.hid (awake_any W2 (HK.out W2 (Below.refl _ _)).2.2.2.2.2.2.1)
  have HT := Lib.hid ht
  have HIW := Lib.hid hi.words
  have HJW := Lib.hid hj.words
  have HIC := Lib.hid hic
  clear hp hm hi hj hg hBW hXW hBW2 hXW2 ht hic
  go_enter Tryd.func6, Tryd.ntmps6
  go_wp2_with fail
  clear hW hW2
  refine HAW.out.mono ?_
  rintro e w1 ⟨rfl, hB1⟩
  have HB1 := Lib.hid hB1
  obtain ⟨hx1, hx2, hp1, hm1, _, _, _⟩ := HK.out w1 hB1
  obtain ⟨x0, x1⟩ := mem_two hx1
  obtain ⟨y0, y1⟩ := mem_two hx2
  have HGR := Lib.hid (great16_any p M inp.length w1 sa ta sc tc ma ms mac msc ia ic hp1 hm1 hil)
  clear HAW hB1 hx1 hx2 hp1 hm1
  go_wp2_with fail
  clear x0 x1 y0 y1
  refine HGR.out.mono ?_
  rintro e w2 ⟨rfl, hB2⟩
  have HB2 := Lib.hid (mem_then HB1.out hB2)
  clear HGR hB2
  cases hbig : bigP p M inp.length with
  | true =>
    have hbn := bigN_t hbig
    clear hbig
    go_wp2_with fail
    go_ret
    exact ⟨rfl, (HK.out w2 HB2.out).2.2.2.2.2.2.2⟩
  | false =>
  have hbn := bigN_f hbig
  have hn40 := bigP_f hbig
  obtain ⟨hx1, hx2, hp1, hm1, _, _, hg1, _⟩ := HK.out w2 HB2.out
  obtain ⟨x0, x1⟩ := mem_two hx1
  obtain ⟨y0, y1⟩ := mem_two hx2
  have HGR := Lib.hid (great16_any p M more.length w2 sa ta sc tc ma ms mac msc ja jc hp1 hm1 hjl)
  clear hbig hx1 hx2 hp1 hm1 hg1
  go_wp2_with fail
  clear x0 x1 y0 y1
  refine HGR.out.mono ?_
  rintro e w2' ⟨rfl, hB2'⟩
  have HB2' := Lib.hid (mem_then HB2.out hB2')
  clear HGR hB2'
  cases hbig : bigP p M more.length with
  | true =>
    have hbn2 := bigN_t hbig
    clear hbig
    go_wp2_with fail
    go_ret
    exact ⟨rfl, (HK.out w2' HB2'.out).2.2.2.2.2.2.2⟩
  | false =>
  have hbn2 := bigN_f hbig
  have hm40 := bigP_f hbig
  obtain ⟨hx1, hx2, hp1, hm1, _, _, hg1, _⟩ := HK.out w2' HB2'.out
  obtain ⟨x0, x1⟩ := mem_two hx1
  obtain ⟨y0, y1⟩ := mem_two hx2
  have HRN := Lib.hid (runnable_any p task M w2' sa ta sc tc ma ms mac msc hp1 hm1 hg1 HT.out)
  clear hbig hx1 hx2 hp1 hm1 hg1
  go_wp2_with fail
  clear x0 x1 y0 y1
  refine HRN.out.mono ?_
  rintro e w3 ⟨rfl, hB3⟩
  have HB3 := Lib.hid (mem_then HB2'.out hB3)
  clear HRN hB3
  cases hrun : runP p task M with
  | false =>
    clear hrun
    go_wp2_with fail
    go_ret
    exact ⟨rfl, (HK.out w3 HB3.out).2.2.2.2.2.2.2⟩
  | true =>
  have HFM := Lib.hid (jobP_alike (inp := inp) (inp' := inp ++ [0, 0, 0]) (F := 3000) hrun alike_zeros)
  have HFL := Lib.hid (fun h => jobP_alike (inp := inp) (inp' := inp.take (jobP p task M inp 3000).rd ++ more) (F := 3000) hrun (alike_more h))
  obtain ⟨hx1, hx2, hp1, hm1, hi1, _, hg1, _⟩ := HK.out w3 HB3.out
  obtain ⟨x0, x1⟩ := mem_two hx1
  obtain ⟨y0, y1⟩ := mem_two hx2
  have HJ := Lib.hid (job_any p task M inp 3000 w3 sa ta sc tc ma ms mac msc ia ic hp1 hm1 hi1 hg1 HT.out (by decide) (by omega))
  clear hrun hx1 hx2 hp1 hm1 hi1 hg1
  go_wp2_with fail
  clear x0 x1 y0 y1
  refine HJ.out.mono ?_
  rintro e w4 ⟨aa, ac, ra, rc, oa, oc, rfl, hra, hB4, _⟩
  obtain ⟨R, hR⟩ : ∃ R, jobP p task M inp 3000 = R := ⟨_, rfl⟩
  rw [hR] at hra ⊢
  have HFM2 : Hid (jobP p task M (inp ++ [0, 0, 0]) 3000 = R) := by show _ = _; rw [← hR]; exact HFM.out
  have HFL2 : Hid (R.rd ≤ inp.length → jobP p task M (inp.take R.rd ++ more) 3000 = R) := by show _ → _; rw [← hR]; exact HFL.out
  have HB4 := Lib.hid (mem_then HB3.out hB4)
  obtain ⟨V, hV⟩ : ∃ V : World, w4.alloc (Res.obj R aa ac ra rc oa oc) = V := ⟨_, rfl⟩
  have hBV : Below w4.heap.size w4 V := by rw [← hV]; exact mem_alloc _ _
  have HXV : Hid (V.heap[w4.heap.size]? = some (Res.obj R aa ac ra rc oa oc)) := by show _ = _; rw [← hV]; exact mem_new _ _
  have HBV := Lib.hid (mem_then HB4.out hBV)
  have HRA : Hid (ResAt V R aa ra oa) := ⟨hra.mem.below hBV, hra.out.below hBV⟩
  obtain ⟨x0, x1, x2, x3, x4, x5⟩ := res_cells HXV.out
  clear HJ hR hra hB4 hBV HFM HFL
  obtain ⟨_, _, _, _, hi1, _⟩ := HK.out V HBV.out
  have HSRC := Lib.hid (hi1.below (mem_alloc V (.cells #[] 21))).src
  have HMADE : Hid ((V.alloc (.cells #[] 21)).ownsRow V.heap.size 21 1 (.slice (some ⟨V.heap.size, 0, none⟩) 0 0) 0 []) := World.ownsRow_made _ #[] 0 (Nat.le_refl _) (by unfold maxLen; omega) rfl
  clear hi1
  go_upto_region 7 with (at_builtin; refine wpList_append_src _ rfl (.tmp 40) (.tmp 41) 30 rfl V.heap.size 21 i0 _ 1 4 Tryd.underlying30 hi0 hz0 hz1 hz2 rfl (by decide) (.slice (some ⟨V.heap.size, 0, none⟩) 0 0) 0 [] rfl HMADE.out ia inp.length ic (i32s inp) rfl HSRC.out (i32s_one inp) (by unfold maxLen; omega) (by omega) (by simp) ?_)
  clear x0 x1 x2 x3 x4 x5 hV
  intro v5 w5 hown5 hgrow5 _
  have hBA5 : Below V.heap.size V w5 := (mem_alloc V _).grown hgrow5 (by simp) (fun k hk => by cases hk; exact Nat.le_refl _)
  obtain ⟨va5, vc5, rfl⟩ := own_val hown5
  obtain ⟨Z, hZ⟩ : ∃ Z : World, w5.alloc (.cells #[.int .i32 0, .int .i32 0, .int .i32 0] 21) = Z := ⟨_, rfl⟩
  have hBZ : Below w5.heap.size w5 Z := by rw [← hZ]; exact mem_alloc _ _
  have HXZ : Hid (Z.heap[w5.heap.size]? = some (.cells #[.int .i32 0, .int .i32 0, .int .i32 0] 21)) := by show _ = _; rw [← hZ]; exact mem_new _ _
  have HO5 := Lib.hid (own_below hown5 hBZ)
  have HBZ := Lib.hid (mem_then hBA5 hBZ)
  clear hown5 hgrow5 hBA5 hBZ
  go_upto_region 7 with (at_builtin; refine wpList_append_src _ rfl (.tmp 42) (.tmp 43) 30 rfl V.heap.size 21 i0 _ 1 4 Tryd.underlying30 hi0 hz0 hz1 hz2 rfl (by decide) (.slice va5 inp.length vc5) inp.length (i32s inp) rfl HO5.out (some ⟨w5.heap.size, 0, none⟩) 3 3 [.int .i32 0, .int .i32 0, .int .i32 0] rfl (src_new HXZ.out rfl) (by simp [Value.oneCell']) (by unfold maxLen; omega) (by omega) HBZ.out.size ?_)
  intro v6 w6 hown6 hgrow6 _
  have hB6 : Below V.heap.size V w6 := HBZ.out.grown hgrow6 HBZ.out.size (fun k hk => (own_lt HO5.out hk).1)
  have hown6 : w6.ownsRow V.heap.size 21 1 v6 (inp ++ [0, 0, 0]).length (i32s (inp ++ [0, 0, 0])) := by
    rw [List.length_append, ← i32s_app]
    exact hown6
  obtain ⟨va6, vc6, rfl⟩ := own_val hown6
  have HW6 := Lib.hid (own_words hown6 (words_app HIW.out word_0)).2.2
  have hl6 : (inp ++ [0, 0, 0]).length ≤ 50 := by simp; omega
  obtain ⟨LZ, hLZ⟩ : ∃ LZ, inp ++ [0, 0, 0] = LZ := ⟨_, rfl⟩
  rw [hLZ] at HW6 HFM2 hl6 ⊢
  have HB6 := Lib.hid hB6
  clear hown6 hgrow6 hB6 hZ hLZ HSRC HMADE HXZ HO5
  go_upto_region 7 with fail
  have hD0 : Below w6.heap.size w6 (World.drew w6) := (Below.refl _ _).drew
  refine wp_region_held_drew (S := fun w' => Below w6.heap.size w6 w') (by kernel_rfl) hD0 (fun hHeld => ?_)
  generalize hwd : World.drew w6 = v1 at hHeld hD0 ⊢
  clear hwd hD0
  have HHV := Lib.hid (mem_then HB6.out hHeld)
  refine wpAnyH_take (i := 0) (v := R.val aa ac ra rc oa oc) rfl (by kernel_rfl) (by kernel_rfl) (by kernel_rfl) (fun _ _ _ h => h) (Or.inl ⟨by rfl, ?_⟩) (by assumption) ?_
  · intro w' hSw; obtain ⟨z0, z1, z2, z3, z4, z5⟩ := res_cells (mem_keep HXV.out (mem_then HB6.out hSw)); go_simp
  (try simp only [Act.put, List.getElem_toArray, List.getElem_cons_zero, List.setIfInBounds_toArray, List.set_cons_zero, List.set_cons_succ])
  refine wpAnyH_take (i := 1) (v := p.val sa sc ta tc) rfl (by kernel_rfl) (by kernel_rfl) (by kernel_rfl) (fun _ _ _ h => h) (Or.inl ⟨by rfl, ?_⟩) (by assumption) ?_
  · intro w' hSw; obtain ⟨z0, z1⟩ := mem_two (HK.out _ (mem_then HBV.out (mem_then HB6.out hSw))).1; go_simp
  (try simp only [Act.put, List.getElem_toArray, List.getElem_cons_zero, List.getElem_cons_succ, List.setIfInBounds_toArray, List.set_cons_zero, List.set_cons_succ])
  refine wpAnyH_take (i := 2) (v := .int .i64 task) rfl (by kernel_rfl) (by kernel_rfl) (by kernel_rfl) (fun _ _ _ h => h) (Or.inl ⟨by rfl, ?_⟩) (by assumption) ?_
  · intro w' hSw; go_simp
  (try simp only [Act.put, List.getElem_toArray, List.getElem_cons_zero, List.getElem_cons_succ, List.setIfInBounds_toArray, List.set_cons_zero, List.set_cons_succ])
  refine wpAnyH_take (i := 3) (v := M.val ma mac ms msc) rfl (by kernel_rfl) (by kernel_rfl) (by kernel_rfl) (fun _ _ _ h => h) (Or.inl ⟨by rfl, ?_⟩) (by assumption) ?_
  · intro w' hSw; obtain ⟨z0, z1⟩ := mem_two (HK.out _ (mem_then HBV.out (mem_then HB6.out hSw))).2.1; go_simp
  (try simp only [Act.put, List.getElem_toArray, List.getElem_cons_zero, List.getElem_cons_succ, List.setIfInBounds_toArray, List.set_cons_zero, List.set_cons_succ])
  refine wpAnyH_take (i := 4) (v := .slice va6 LZ.length vc6) rfl (by kernel_rfl) (by kernel_rfl) (by kernel_rfl) (fun _ _ _ h => h) (Or.inl ⟨by rfl, ?_⟩) (by assumption) ?_
  · intro w' hSw; go_simp
  (try simp only [Act.put, List.getElem_toArray, List.getElem_cons_zero, List.getElem_cons_succ, List.setIfInBounds_toArray, List.set_cons_zero, List.set_cons_succ])
  refine wpAnyH_ready (rs := [5]) (by kernel_rfl) (by simp) (AllReadyH.cons rfl (fun K hK => ?_) AllReadyH.nil)
  go_simp
  obtain ⟨_, _, hp1, hm1, _, _, hg1, _⟩ := HK.out v1 (mem_then HBV.out HHV.out)
  refine (job_any p task M LZ 3000 v1 sa ta sc tc ma ms mac msc va6 vc6 hp1 hm1 (HW6.out.below hHeld) hg1 HT.out (by decide) (by omega)).mono ?_
  rintro e w7 ⟨ba, bc, ta', tc', oa', oc', rfl, hrb, hB7, _⟩
  rw [HFM2.out] at hrb ⊢
  have HB7 := Lib.hid (mem_then hHeld hB7)
  have HRA7 : Hid (ResAt w7 R aa ra oa) := ⟨HRA.out.mem.below (mem_then HB6.out HB7.out), HRA.out.out.below (mem_then HB6.out HB7.out)⟩
  have HRB := Lib.hid hrb
  clear hp1 hm1 hg1 hrb hB7
  refine hK.out _ _ (HB7.out) (fun hHeld => ?_)
  clear hK K
  rename_i hOld
  clear hOld
  (try simp only [Act.put, List.getElem_toArray, List.getElem_cons_zero, List.getElem_cons_succ, List.setIfInBounds_toArray, List.set_cons_zero, List.set_cons_succ])
  refine wpAnyH_ready (rs := [6]) (by kernel_rfl) (by simp) (AllReadyH.cons rfl (fun K hK => ?_) AllReadyH.nil)
  go_simp
  refine (same_any R R true w7 aa ra oa ba ta' oa' ac rc oc bc tc' oc' HRA7.out HRB.out).mono ?_
  rintro e w8 ⟨rfl, hB8⟩
  rw [same_self]
  have HB8 := Lib.hid (mem_then HB6.out (mem_then HB7.out hB8))
  have hq8 := mem_then HB7.out hB8
  clear hB8
  refine hK.out _ _ (hq8) (fun hHeld => ?_)
  clear hK K
  rename_i hOld
  clear hOld
  (try simp only [Act.put, List.getElem_toArray, List.getElem_cons_zero, List.getElem_cons_succ, List.setIfInBounds_toArray, List.set_cons_zero, List.set_cons_succ])
  refine wpAnyH_take (i := 7) (v := .bool false) rfl (by kernel_rfl) (by kernel_rfl) (by kernel_rfl) (fun _ _ _ h => h) (Or.inl ⟨by rfl, ?_⟩) (by assumption) ?_
  · intro w' hSw; go_simp
  (try simp only [Act.put, List.getElem_toArray, List.getElem_cons_zero, List.getElem_cons_succ, List.setIfInBounds_toArray, List.set_cons_zero, List.set_cons_succ])
  clear hHeld hq8
  refine wpAnyH_done (by kernel_rfl) ?_ _
  clear HW6 HB6 HHV HB7 HRA7 HRB HFM2
  obtain ⟨x0, x1, x2, x3, x4, x5⟩ := res_cells (mem_keep HXV.out HB8.out)
  by_cases hle : R.rd ≤ inp.length
  · have hle2 : (R.rd : Int) ≤ (inp.length : Int) := by omega
    have b3 : decide ((inp.length : Int) < (R.rd : Int)) = false := decide_eq_false (by omega)
    have hcap : R.rd ≤ ic := by have := HIC.out; omega
    have hcap2 : (R.rd : Int) ≤ (ic : Int) := by omega
    have hrd0 : (0 : Int) ≤ (R.rd : Int) := by omega
    have HJ3 := Lib.hid (HFL2.out hle)
    have hlt8 : w4.heap.size < w8.heap.size := mem_lt (mem_keep HXV.out HB8.out)
    have z3 : (w8.alloc (.cells #[] 21)).cell? ⟨w4.heap.size, 3, none⟩ = some (.int .i64 (R.rd : Int)) := (res_cells (mem_keep HXV.out (mem_then HB8.out (mem_alloc _ _)))).2.2.2.1
    have htl : (inp.take R.rd).length = R.rd := by rw [List.length_take]; omega
    have HTL := Lib.hid htl
    obtain ⟨_, _, _, _, hi1, _⟩ := HK.out w8 (mem_then HBV.out HB8.out)
    have hsr := ((hi1.take R.rd).below (mem_alloc w8 (.cells #[] 21))).src
    rw [htl] at hsr
    have HSRC := Lib.hid hsr
    have HMADE : Hid ((w8.alloc (.cells #[] 21)).ownsRow w8.heap.size 21 1 (.slice (some ⟨w8.heap.size, 0, none⟩) 0 0) 0 []) := World.ownsRow_made _ #[] 0 (Nat.le_refl _) (by unfold maxLen; omega) rfl
    clear hle htl hi1 hsr
    go_upto_region 12 with (at_builtin; refine wpList_append_src _ rfl (.tmp 58) (.tmp 62) 30 rfl w8.heap.size 21 i0 _ 1 4 Tryd.underlying30 hi0 hz0 hz1 hz2 rfl (by decide) (.slice (some ⟨w8.heap.size, 0, none⟩) 0 0) 0 [] rfl HMADE.out ia R.rd ic (i32s (inp.take R.rd)) rfl HSRC.out (i32s_one _) (by unfold maxLen; omega) (by omega) (by simp) ?_)
    clear x0 x1 x2 x3 x4 x5
    intro v5 w5 hown5 hgrow5 _
    have hBA5 : Below w8.heap.size w8 w5 := (mem_alloc w8 _).grown hgrow5 (by simp) (fun k hk => by cases hk; exact Nat.le_refl _)
    obtain ⟨va5, vc5, rfl⟩ := own_val hown5
    have HO5 := Lib.hid hown5
    have HBZ := Lib.hid hBA5
    obtain ⟨_, _, _, _, _, hj1, _⟩ := HK.out w5 (mem_then HBV.out (mem_then HB8.out hBA5))
    have HSRJ := Lib.hid hj1.src
    clear hown5 hgrow5 hBA5 hj1
    go_upto_region 12 with (at_builtin; refine wpList_append_src _ rfl (.tmp 63) (.tmp 64) 30 rfl w8.heap.size 21 i0 _ 1 4 Tryd.underlying30 hi0 hz0 hz1 hz2 rfl (by decide) (.slice va5 R.rd vc5) R.rd (i32s (inp.take R.rd)) rfl HO5.out ja more.length jc (i32s more) rfl HSRJ.out (i32s_one _) (by unfold maxLen; omega) (by omega) HBZ.out.size ?_)
    intro v6 w6 hown6 hgrow6 _
    have hB6 : Below w8.heap.size w8 w6 := HBZ.out.grown hgrow6 HBZ.out.size (fun k hk => (own_lt HO5.out hk).1)
    have hown6 : w6.ownsRow w8.heap.size 21 1 v6 (inp.take R.rd ++ more).length (i32s (inp.take R.rd ++ more)) := by
      rw [List.length_append, HTL.out, ← i32s_app]
      exact hown6
    obtain ⟨va6, vc6, rfl⟩ := own_val hown6
    have HW6 := Lib.hid (own_words hown6 (words_app (fun x hx => HIW.out x (List.mem_of_mem_take hx)) HJW.out)).2.2
    have hl6 : (inp.take R.rd ++ more).length ≤ 100 := by rw [List.length_append, HTL.out]; omega
    obtain ⟨LZ, hLZ⟩ : ∃ LZ, inp.take R.rd ++ more = LZ := ⟨_, rfl⟩
    rw [hLZ] at HW6 HJ3 hl6 ⊢
    have HB6 := Lib.hid (mem_then HB8.out hB6)
    clear hown6 hgrow6 hB6 hLZ HSRC HMADE HO5 HTL HSRJ
    go_upto_region 12 with fail
    have hD0 : Below w6.heap.size w6 (World.drew w6) := (Below.refl _ _).drew
    refine wp_region_held_drew (S := fun w' => Below w6.heap.size w6 w') (by kernel_rfl) hD0 (fun hHeld => ?_)
    generalize hwd : World.drew w6 = v1 at hHeld hD0 ⊢
    clear hwd hD0
    have HHV := Lib.hid (mem_then HB6.out hHeld)
    refine wpAnyH_take (i := 0) (v := R.val aa ac ra rc oa oc) rfl (by kernel_rfl) (by kernel_rfl) (by kernel_rfl) (fun _ _ _ h => h) (Or.inl ⟨by rfl, ?_⟩) (by assumption) ?_
    · intro w' hSw; obtain ⟨z0, z1, z2, z3, z4, z5⟩ := res_cells (mem_keep HXV.out (mem_then HB6.out hSw)); go_simp
    (try simp only [Act.put, List.getElem_toArray, List.getElem_cons_zero, List.setIfInBounds_toArray, List.set_cons_zero, List.set_cons_succ])
    refine wpAnyH_take (i := 1) (v := p.val sa sc ta tc) rfl (by kernel_rfl) (by kernel_rfl) (by kernel_rfl) (fun _ _ _ h => h) (Or.inl ⟨by rfl, ?_⟩) (by assumption) ?_
    · intro w' hSw; obtain ⟨z0, z1⟩ := mem_two (HK.out _ (mem_then HBV.out (mem_then HB6.out hSw))).1; go_simp
    (try simp only [Act.put, List.getElem_toArray, List.getElem_cons_zero, List.getElem_cons_succ, List.setIfInBounds_toArray, List.set_cons_zero, List.set_cons_succ])
    refine wpAnyH_take (i := 2) (v := .int .i64 task) rfl (by kernel_rfl) (by kernel_rfl) (by kernel_rfl) (fun _ _ _ h => h) (Or.inl ⟨by rfl, ?_⟩) (by assumption) ?_
    · intro w' hSw; go_simp
    (try simp only [Act.put, List.getElem_toArray, List.getElem_cons_zero, List.getElem_cons_succ, List.setIfInBounds_toArray, List.set_cons_zero, List.set_cons_succ])
    refine wpAnyH_take (i := 3) (v := M.val ma mac ms msc) rfl (by kernel_rfl) (by kernel_rfl) (by kernel_rfl) (fun _ _ _ h => h) (Or.inl ⟨by rfl, ?_⟩) (by assumption) ?_
    · intro w' hSw; obtain ⟨z0, z1⟩ := mem_two (HK.out _ (mem_then HBV.out (mem_then HB6.out hSw))).2.1; go_simp
    (try simp only [Act.put, List.getElem_toArray, List.getElem_cons_zero, List.getElem_cons_succ, List.setIfInBounds_toArray, List.set_cons_zero, List.set_cons_succ])
    refine wpAnyH_take (i := 4) (v := .slice va6 LZ.length vc6) rfl (by kernel_rfl) (by kernel_rfl) (by kernel_rfl) (fun _ _ _ h => h) (Or.inl ⟨by rfl, ?_⟩) (by assumption) ?_
    · intro w' hSw; go_simp
    (try simp only [Act.put, List.getElem_toArray, List.getElem_cons_zero, List.getElem_cons_succ, List.setIfInBounds_toArray, List.set_cons_zero, List.set_cons_succ])
    refine wpAnyH_ready (rs := [5]) (by kernel_rfl) (by simp) (AllReadyH.cons rfl (fun K hK => ?_) AllReadyH.nil)
    go_simp
    obtain ⟨_, _, hp1, hm1, _, _, hg1, _⟩ := HK.out v1 (mem_then HBV.out HHV.out)
    refine (job_any p task M LZ 3000 v1 sa ta sc tc ma ms mac msc va6 vc6 hp1 hm1 (HW6.out.below hHeld) hg1 HT.out (by decide) (by omega)).mono ?_
    rintro e w7 ⟨ba, bc, ta', tc', oa', oc', rfl, hrb, hB7, _⟩
    rw [HJ3.out] at hrb ⊢
    have HB7 := Lib.hid (mem_then hHeld hB7)
    have HRA7 : Hid (ResAt w7 R aa ra oa) := ⟨HRA.out.mem.below (mem_then HB6.out HB7.out), HRA.out.out.below (mem_then HB6.out HB7.out)⟩
    have HRB := Lib.hid hrb
    clear hp1 hm1 hg1 hrb hB7
    refine hK.out _ _ (HB7.out) (fun hHeld => ?_)
    clear hK K
    rename_i hOld
    clear hOld
    (try simp only [Act.put, List.getElem_toArray, List.getElem_cons_zero, List.getElem_cons_succ, List.setIfInBounds_toArray, List.set_cons_zero, List.set_cons_succ])
    refine wpAnyH_ready (rs := [6]) (by kernel_rfl) (by simp) (AllReadyH.cons rfl (fun K hK => ?_) AllReadyH.nil)
    go_simp
    refine (same_any R R true w7 aa ra oa ba ta' oa' ac rc oc bc tc' oc' HRA7.out HRB.out).mono ?_
    rintro e w9 ⟨rfl, hB9⟩
    rw [same_self]
    have HB9 := Lib.hid (mem_then HB6.out (mem_then HB7.out hB9))
    have hq9 := mem_then HB7.out hB9
    clear hB9
    refine hK.out _ _ (hq9) (fun hHeld => ?_)
    clear hK K
    rename_i hOld
    clear hOld
    (try simp only [Act.put, List.getElem_toArray, List.getElem_cons_zero, List.getElem_cons_succ, List.setIfInBounds_toArray, List.set_cons_zero, List.set_cons_succ])
    refine wpAnyH_take (i := 7) (v := .bool true) rfl (by kernel_rfl) (by kernel_rfl) (by kernel_rfl) (fun _ _ _ h => h) (Or.inl ⟨by rfl, ?_⟩) (by assumption) ?_
    · intro w' hSw; go_simp
    (try simp only [Act.put, List.getElem_toArray, List.getElem_cons_zero, List.getElem_cons_succ, List.setIfInBounds_toArray, List.set_cons_zero, List.set_cons_succ])
    clear hHeld hq9
    refine wpAnyH_done (by kernel_rfl) ?_ _
    go_wp2_with fail
    go_ret
    exact ⟨rfl, (HK.out w9 (mem_then HBV.out HB9.out)).2.2.2.2.2.2.2⟩
  · have b3 : decide ((inp.length : Int) < (R.rd : Int)) = true := decide_eq_true (by omega)
    have hgt : inp.length < R.rd := by omega
    have hgt2 : (inp.length : Int) < (R.rd : Int) := by omega
    clear hle
    go_wp2_with fail
    go_ret
    exact ⟨rfl, (HK.out w8 (mem_then HBV.out HB8.out)).2.2.2.2.2.2.2⟩
end Go.Proofs.YtgochgcchkdlmaaDoor
