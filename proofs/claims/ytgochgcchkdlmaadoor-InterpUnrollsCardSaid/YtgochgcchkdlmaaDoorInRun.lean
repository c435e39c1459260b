/-
  Contracts: shape, Fits (package ontimeref16), runnable (package ontimelaw16).
-/
import Derived.Test.YtgochgcchkdlmaaDoorInMems
import Derived.Test.YtgochgcchkdlmaaDoorChkRows
namespace Go.Proofs.YtgochgcchkdlmaaDoor
set_option linter.unusedVariables false
set_option linter.unusedSimpArgs false
open Go.RowKit Go.Maps
set_option maxRecDepth 100000
set_option maxHeartbeats 80000000

theorem shape_any (D : List Arr) (L : List (List Int)) (a b : Option Addr) (c d : Nat) (w : World) (hl : ArrsAt w a D) (hm : ContAt w b L) :
    Calls Tryd.prog 39 #[.slice a D.length c, .slice b L.length d] w fun e w' => e = .returned (.bool (matchP D L)) ∧ Below w.heap.size w w' := by
  have HL := Lib.hid hl
  have HM := Lib.hid hm
  have hlf := hl.1
  have hmf := hm.fits
  clear hl hm
  by_cases hlen : D.length = L.length
  · have q0 : ((D.length : Int) != (L.length : Int)) = false := by simp [hlen]
    have HLEN := Lib.hid hlen
    clear hlen
    go_enter Tryd.func39, Tryd.ntmps39
    go_wp2_with fail
    go_loopw [5] (fun i wr => ∃ j : Nat, j ≤ D.length ∧ i = .int .i64 j ∧ matchP (D.drop j) (L.drop j) = matchP D L ∧ Below w.heap.size w wr) (fun i _ => D.length - (intOf i).toNat)
    case atStart => exact ⟨0, Nat.zero_le _, rfl, rfl, Below.refl _ _⟩
    case round =>
      obtain ⟨j, hj, rfl, hd, hB⟩ := hrel
      have HD := Lib.hid hd
      have HB := Lib.hid hB
      have hk0 : (0 : Int) ≤ (j : Int) := by omega
      clear hd hB
      by_cases hlt : j < D.length
      · have hlt2 : (j : Int) < (D.length : Int) := by omega
        have hlt3 : (j : Int) < (L.length : Int) := by have := HLEN.out; omega
        have hlt4 : j < L.length := by have := HLEN.out; omega
        obtain ⟨r, hr⟩ : ∃ r, L[j]? = some r := ⟨_, List.getElem?_eq_getElem hlt4⟩
        obtain ⟨b1, o1, rfl, hx⟩ := HL.out.2 j hlt
        obtain ⟨x, hxe⟩ : ∃ x, D.getD j Arr.none = x := ⟨_, rfl⟩
        rw [hxe] at hx
        obtain ⟨b2, o2, rfl, ra, rc, hcell, _, hw⟩ := (HM.out.below HB.out).row hr
        have hrf := hw.fits
        have HDR : Hid (matchP (D.drop j) (L.drop j) = ((x.len == (r.length : Int)) && matchP (D.drop (j + 1)) (L.drop (j + 1)))) := by show _ = _; rw [matchP_drop hlt hr, hxe]
        have x0 := cell_stay HB.out hx.1
        have x1 := cell_stay HB.out hx.2.1
        have hb1 := World.block_lt_of_cell? _ _ x0
        have hb2 := World.block_lt_of_cell? _ _ hcell
        clear hr hx hxe hw
        go_wp2_with fail
        go_quiet (fail)
        generalize hwq : World.drewN wr _ = wq
        have HQ : Hid (Below wr.heap.size wr wq) := mem_drawn (Below.refl _ _) hwq
        clear hwq hcell x0 x1
        by_cases he : x.len = (r.length : Int)
        · have hb : ((r.length : Int) != x.len) = false := by simp [he]
          have HN : Hid (matchP (D.drop (j + 1)) (L.drop (j + 1)) = matchP D L) := by
            show _ = _; rw [← HD.out, HDR.out]; simp [he]
          clear he
          go_wp2_with fail
          go_roundw
          case rel => exact ⟨j + 1, by omega, by go_num, HN.out, mem_then HB.out HQ.out⟩
          case measure => simp [intOf]; omega
        · have hb : ((r.length : Int) != x.len) = true := by simp; omega
          have HN : Hid (matchP D L = false) := by
            have hz : (x.len == (r.length : Int)) = false := by simpa using he
            show _ = _; rw [← HD.out, HDR.out, hz, Bool.false_and]
          clear he
          go_wp2_with fail
          go_ret
          exact ⟨by rw [HN.out]; rfl, mem_then HB.out HQ.out⟩
      · obtain rfl : j = D.length := by omega
        have HN : Hid (matchP D L = true) := by show _ = _; rw [← HD.out]; exact matchP_end HLEN.out
        go_wp2_with fail
        go_ret
        exact ⟨by rw [HN.out]; rfl, HB.out⟩
  · have q0 : ((D.length : Int) != (L.length : Int)) = true := by simp; omega
    have HN := Lib.hid (matchP_len hlen)
    clear hlen
    go_enter Tryd.func39, Tryd.ntmps39
    go_wp2_with fail
    go_ret
    exact ⟨by rw [HN.out]; rfl, Below.refl _ _⟩
def refFits (p : Prg) (M : Mem) : Bool := decide (M.arrays.length = p.tasks.length) && (matchP p.shared M.shared && fitsAll p.tasks M.arrays)
theorem refFits_any (p : Prg) (M : Mem) (w : World) (sa ta : Option Addr) (sc tc : Nat) (ma ms : Option Addr) (mac msc : Nat) (hp : PrgAt w p sa ta) (hm : MemAt w M ma ms) :
    Calls Tryd.prog 18 #[p.val sa sc ta tc, .slice ma M.arrays.length mac, .slice ms M.shared.length msc] w fun e w' => e = .returned (.bool (refFits p M)) ∧ Below w.heap.size w w' := by
  have hsl := hp.1.1
  have htl := hp.2.1
  have hml := hm.1.fits
  have hmsl := hm.2.fits
  obtain ⟨W, hW⟩ : ∃ W : World, w.alloc (prgObj p sa sc ta tc) = W := ⟨_, rfl⟩
  have hBW : Below w.heap.size w W := by rw [← hW]; exact mem_alloc _ _
  have hXW : W.heap[w.heap.size]? = some (prgObj p sa sc ta tc) := by rw [← hW]; exact mem_new _ _
  have HK : Hid (∀ w', Below W.heap.size W w' → w'.heap[w.heap.size]? = some (prgObj p sa sc ta tc) ∧ PrgAt w' p sa ta ∧ MemAt w' M ma ms ∧ Below w.heap.size w w') := fun w' hw => by
    have hb := mem_then hBW hw
    exact ⟨mem_keep hXW hw, hp.below hb, hm.below hb, hb⟩
  obtain ⟨hx1, hp2, hm2, hb2⟩ := HK.out W (Below.refl _ _)
  have HBX := Lib.hid hb2
  have x0 := mem_cell hx1 0
  have x1 := mem_cell hx1 1
  simp only [List.getElem?_toArray, List.getElem?_cons_zero, List.getElem?_cons_succ] at x0 x1
  have HSH := Lib.hid (shape_any p.shared M.shared sa ms sc msc W hp2.1 hm2.2)
  clear hp hm hBW hXW hx1 hp2 hm2 hb2
  by_cases hlen : M.arrays.length = p.tasks.length
  · have hlb : ((M.arrays.length : Int) != (p.tasks.length : Int)) = false := by simp [hlen]
    have HLEN := Lib.hid hlen
    clear hlen
    go_enter Tryd.func18, Tryd.ntmps18
    go_wp2_with fail
    clear hW x0 x1
    refine HSH.out.mono ?_
    rintro e w1 ⟨rfl, hB1⟩
    have HB1 := Lib.hid hB1
    clear HSH hB1
    cases hsh : matchP p.shared M.shared with
    | false =>
      have HN : Hid (refFits p M = false) := by show _ = _; unfold refFits; rw [hsh]; simp
      clear hsh
      go_wp2_with fail
      go_ret
      exact ⟨by rw [HN.out]; rfl, (HK.out _ HB1.out).2.2.2⟩
    | true =>
    have HSHT := Lib.hid hsh
    clear hsh
    go_wp2_with fail
    go_loopw [7] (fun i wr => ∃ j : Nat, j ≤ p.tasks.length ∧ i = .int .i64 j ∧ fitsAll (p.tasks.drop j) (M.arrays.drop j) = fitsAll p.tasks M.arrays ∧ Below W.heap.size W wr) (fun i _ => p.tasks.length - (intOf i).toNat)
    case atStart => exact ⟨0, Nat.zero_le _, rfl, rfl, HB1.out⟩
    case round =>
      obtain ⟨j, hj, rfl, hd, hB⟩ := hrel
      have HD := Lib.hid hd
      have HB := Lib.hid hB
      have hk0 : (0 : Int) ≤ (j : Int) := by omega
      clear hd hB
      by_cases hlt : j < p.tasks.length
      · have hlt2 : (j : Int) < (p.tasks.length : Int) := by omega
        have hlt3 : (j : Int) < (M.arrays.length : Int) := by have := HLEN.out; omega
        have hlt4 : j < M.arrays.length := by have := HLEN.out; omega
        obtain ⟨r, hr⟩ : ∃ r, M.arrays[j]? = some r := ⟨_, List.getElem?_eq_getElem hlt4⟩
        obtain ⟨_, hpr, hmr, _⟩ := HK.out wr HB.out
        obtain ⟨tb, tf, q, rfl, hc, hin⟩ := hpr.2.2 j hlt
        obtain ⟨t, ht⟩ : ∃ t, p.tasks.getD j Tsk.none = t := ⟨_, rfl⟩
        rw [ht] at hc hin
        obtain ⟨b2, o2, rfl, ra, rc, hcell, _, hw⟩ := hmr.1.row hr
        have hrf := hw.fits
        have HDR : Hid (fitsAll (p.tasks.drop j) (M.arrays.drop j) = (matchP t.arrays r && fitsAll (p.tasks.drop (j + 1)) (M.arrays.drop (j + 1)))) := by show _ = _; rw [fitsAll_drop hlt hr, ht]
        have HC := Lib.hid hcell
        have HG3 : Hid (∀ w', Below wr.heap.size wr w' → w'.cell? ⟨tb, tf + j * 8 + 3, none⟩ = some (.slice q.aa t.arrays.length q.ac)) := fun w' hw => (tsk_cells hw hc).1.2.2.2.1
        have g3 := HG3.out wr (Below.refl _ _)
        have hg3 := World.block_lt_of_cell? _ _ g3
        have HIN := Lib.hid hin.arrays
        have HWR := Lib.hid hw
        have hal := hin.arrays.1
        clear hr ht hc hin hcell hw hpr hmr
        go_upto_region 6 with fail
        clear g3
        have hD0 : Below wr.heap.size wr (World.drew wr) := (Below.refl _ _).drew
        refine wp_region_held_drew (S := fun w' => Below wr.heap.size wr w') (by kernel_rfl) hD0 (fun hHeld => ?_)
        generalize hwd : World.drew wr = v1 at hHeld hD0 ⊢
        clear hwd hD0
        refine wpAnyH_take (i := 0) (v := .pointer (some ⟨w.heap.size, 1, none⟩)) rfl (by kernel_rfl) (by kernel_rfl) (by kernel_rfl) (fun _ _ _ h => h) (Or.inl ⟨by rfl, ?_⟩) (by assumption) ?_
        · intro w' hSw; go_simp
        (try simp only [Act.put, List.getElem_toArray, List.getElem_cons_zero, List.setIfInBounds_toArray, List.set_cons_zero, List.set_cons_succ])
        refine wpAnyH_take (i := 1) (v := .slice (some ⟨tb, tf, none⟩) p.tasks.length tc) rfl (by kernel_rfl) (by kernel_rfl) (by kernel_rfl) (fun _ _ _ h => h) (Or.inl ⟨by rfl, ?_⟩) (by assumption) ?_
        · intro w' hSw; have z0 := mem_cell (HK.out _ (mem_then HB.out hSw)).1 1; simp only [List.getElem?_toArray, List.getElem?_cons_zero, List.getElem?_cons_succ] at z0; go_simp
        (try simp only [Act.put, List.getElem_toArray, List.getElem_cons_zero, List.getElem_cons_succ, List.setIfInBounds_toArray, List.set_cons_zero, List.set_cons_succ])
        refine wpAnyH_take (i := 2) (v := .int .i64 (j : Int)) rfl (by kernel_rfl) (by kernel_rfl) (by kernel_rfl) (fun _ _ _ h => h) (Or.inl ⟨by rfl, ?_⟩) (by assumption) ?_
        · intro w' hSw; go_simp
        (try simp only [Act.put, List.getElem_toArray, List.getElem_cons_zero, List.getElem_cons_succ, List.setIfInBounds_toArray, List.set_cons_zero, List.set_cons_succ])
        refine wpAnyH_take (i := 3) (v := .pointer (some ⟨tb, tf + j * 8, none⟩)) rfl (by kernel_rfl) (by kernel_rfl) (by kernel_rfl) (fun _ _ _ h => h) (Or.inl ⟨by rfl, ?_⟩) (by assumption) ?_
        · intro w' hSw; go_simp
        (try simp only [Act.put, List.getElem_toArray, List.getElem_cons_zero, List.getElem_cons_succ, List.setIfInBounds_toArray, List.set_cons_zero, List.set_cons_succ])
        refine wpAnyH_take (i := 4) (v := .pointer (some ⟨tb, tf + j * 8 + 3, none⟩)) rfl (by kernel_rfl) (by kernel_rfl) (by kernel_rfl) (fun _ _ _ h => h) (Or.inl ⟨by rfl, ?_⟩) (by assumption) ?_
        · intro w' hSw; go_simp
        (try simp only [Act.put, List.getElem_toArray, List.getElem_cons_zero, List.getElem_cons_succ, List.setIfInBounds_toArray, List.set_cons_zero, List.set_cons_succ])
        refine wpAnyH_take (i := 5) (v := .slice q.aa t.arrays.length q.ac) rfl (by kernel_rfl) (by kernel_rfl) (by kernel_rfl) (fun _ _ _ h => h) (Or.inl ⟨by rfl, ?_⟩) (by assumption) ?_
        · intro w' hSw; have z0 := HG3.out _ hSw; go_simp
        (try simp only [Act.put, List.getElem_toArray, List.getElem_cons_zero, List.getElem_cons_succ, List.setIfInBounds_toArray, List.set_cons_zero, List.set_cons_succ])
        refine wpAnyH_take (i := 6) (v := .slice (some ⟨b2, o2, none⟩) M.arrays.length mac) rfl (by kernel_rfl) (by kernel_rfl) (by kernel_rfl) (fun _ _ _ h => h) (Or.inl ⟨by rfl, ?_⟩) (by assumption) ?_
        · intro w' hSw; go_simp
        (try simp only [Act.put, List.getElem_toArray, List.getElem_cons_zero, List.getElem_cons_succ, List.setIfInBounds_toArray, List.set_cons_zero, List.set_cons_succ])
        refine wpAnyH_take (i := 7) (v := .int .i64 (j : Int)) rfl (by kernel_rfl) (by kernel_rfl) (by kernel_rfl) (fun _ _ _ h => h) (Or.inl ⟨by rfl, ?_⟩) (by assumption) ?_
        · intro w' hSw; go_simp
        (try simp only [Act.put, List.getElem_toArray, List.getElem_cons_zero, List.getElem_cons_succ, List.setIfInBounds_toArray, List.set_cons_zero, List.set_cons_succ])
        refine wpAnyH_take (i := 8) (v := .pointer (some ⟨b2, o2 + j, none⟩)) rfl (by kernel_rfl) (by kernel_rfl) (by kernel_rfl) (fun _ _ _ h => h) (Or.inl ⟨by rfl, ?_⟩) (by assumption) ?_
        · intro w' hSw; go_simp
        (try simp only [Act.put, List.getElem_toArray, List.getElem_cons_zero, List.getElem_cons_succ, List.setIfInBounds_toArray, List.set_cons_zero, List.set_cons_succ])
        refine wpAnyH_take (i := 9) (v := .slice ra r.length rc) rfl (by kernel_rfl) (by kernel_rfl) (by kernel_rfl) (fun _ _ _ h => h) (Or.inl ⟨by rfl, ?_⟩) (by assumption) ?_
        · intro w' hSw; have z0 := cell_stay hSw HC.out; go_simp
        (try simp only [Act.put, List.getElem_toArray, List.getElem_cons_zero, List.getElem_cons_succ, List.setIfInBounds_toArray, List.set_cons_zero, List.set_cons_succ])
        have h9 := shape_any t.arrays r q.aa ra q.ac rc v1 (HIN.out.below hHeld) (HWR.out.below hHeld)
        have H9 := Lib.hid h9
        have HB3 := Lib.hid hHeld
        clear h9
        refine wpAnyH_ready (rs := [10]) (by kernel_rfl) (by simp) (AllReadyH.cons rfl (fun K hK => ?_) AllReadyH.nil)
        go_simp
        refine H9.out.mono ?_
        rintro e w3 ⟨rfl, hB3⟩
        have HB4 := Lib.hid (mem_then HB3.out hB3)
        clear H9 hB3
        refine hK.out _ _ (HB4.out) (fun hHeld => ?_)
        clear hK K
        rename_i hOld
        clear hOld
        (try simp only [Act.put, List.getElem_toArray, List.getElem_cons_zero, List.getElem_cons_succ, List.setIfInBounds_toArray, List.set_cons_zero, List.set_cons_succ])
        cases hm : matchP t.arrays r with
        | false =>
          have HN : Hid (refFits p M = false) := by
            show _ = _; unfold refFits; rw [← HD.out, HDR.out, hm]; simp
          clear hm
          refine wpAnyH_take (i := 11) (v := .bool true) rfl (by kernel_rfl) (by kernel_rfl) (by kernel_rfl) (fun _ _ _ h => h) (Or.inl ⟨by rfl, ?_⟩) (by assumption) ?_
          · intro w' hSw; go_simp
          (try simp only [Act.put, List.getElem_toArray, List.getElem_cons_zero, List.getElem_cons_succ, List.setIfInBounds_toArray, List.set_cons_zero, List.set_cons_succ])
          refine wpAnyH_done (by kernel_rfl) ?_ _
          go_wp2_with fail
          go_ret
          exact ⟨by rw [HN.out]; rfl, (HK.out _ (mem_then HB.out HB4.out)).2.2.2⟩
        | true =>
          have HN : Hid (fitsAll (p.tasks.drop (j + 1)) (M.arrays.drop (j + 1)) = fitsAll p.tasks M.arrays) := by
            show _ = _; rw [← HD.out, HDR.out, hm, Bool.true_and]
          clear hm
          refine wpAnyH_take (i := 11) (v := .bool false) rfl (by kernel_rfl) (by kernel_rfl) (by kernel_rfl) (fun _ _ _ h => h) (Or.inl ⟨by rfl, ?_⟩) (by assumption) ?_
          · intro w' hSw; go_simp
          (try simp only [Act.put, List.getElem_toArray, List.getElem_cons_zero, List.getElem_cons_succ, List.setIfInBounds_toArray, List.set_cons_zero, List.set_cons_succ])
          refine wpAnyH_done (by kernel_rfl) ?_ _
          go_wp2_with fail
          go_roundw
          case rel => exact ⟨j + 1, by omega, by go_num, HN.out, mem_then HB.out HB4.out⟩
          case measure => simp [intOf]; omega
      · obtain rfl : j = p.tasks.length := by omega
        have HFA : Hid (fitsAll p.tasks M.arrays = true) := by show _ = _; rw [← HD.out]; exact fitsAll_end HLEN.out.symm
        have HE : Hid (refFits p M = true) := by show _ = _; unfold refFits; rw [HFA.out, HSHT.out, decide_eq_true HLEN.out]; rfl
        have hge : ((p.tasks.length : Int) < (M.arrays.length : Int)) = False := by have := HLEN.out; simp; omega
        have hge2 : decide ((p.tasks.length : Int) < (M.arrays.length : Int)) = false := by simpa using hge
        go_wp2_with fail
        go_ret
        exact ⟨by rw [HE.out]; rfl, (HK.out _ HB.out).2.2.2⟩
  · have hlb : ((M.arrays.length : Int) != (p.tasks.length : Int)) = true := by simp; omega
    have HN : Hid (refFits p M = false) := by show _ = _; unfold refFits; rw [decide_eq_false hlen]; simp
    clear hlen
    go_enter Tryd.func18, Tryd.ntmps18
    go_wp2_with fail
    go_ret
    exact ⟨by rw [HN.out]; rfl, by first | exact HBX.out | (rw [hW]; exact HBX.out)⟩
def runP (p : Prg) (task : Int) (M : Mem) : Bool := okP p && (decide (0 ≤ task) && (decide (task < (p.tasks.length : Int)) && refFits p M))
theorem runnable_any (p : Prg) (task : Int) (M : Mem) (w : World) (sa ta : Option Addr) (sc tc : Nat) (ma ms : Option Addr) (mac msc : Nat) (hp : PrgAt w p sa ta) (hm : MemAt w M ma ms) (hg : SignsIn w) (ht : isI64 task) :
    Calls Tryd.prog 24 #[p.val sa sc ta tc, .int .i64 task, M.val ma mac ms msc] w fun e w' => e = .returned (.bool (runP p task M)) ∧ Below w.heap.size w w' := by
  have hsl := hp.1.1
  have htl := hp.2.1
  have hml := hm.1.fits
  have hmsl := hm.2.fits
  obtain ⟨W, hW⟩ : ∃ W : World, w.alloc (prgObj p sa sc ta tc) = W := ⟨_, rfl⟩
  have hBW : Below w.heap.size w W := by rw [← hW]; exact mem_alloc _ _
  have hXW : W.heap[w.heap.size]? = some (prgObj p sa sc ta tc) := by rw [← hW]; exact mem_new _ _
  obtain ⟨W2, hW2⟩ : ∃ W2 : World, W.alloc (memObj M ma mac ms msc) = W2 := ⟨_, rfl⟩
  have hBW2 : Below W.heap.size W W2 := by rw [← hW2]; exact mem_alloc _ _
  have hXW2 : W2.heap[W.heap.size]? = some (memObj M ma mac ms msc) := by rw [← hW2]; exact mem_new _ _
  have HK : Hid (∀ w', Below W2.heap.size W2 w' → w'.heap[w.heap.size]? = some (prgObj p sa sc ta tc) ∧ w'.heap[W.heap.size]? = some (memObj M ma mac ms msc) ∧ PrgAt w' p sa ta ∧ MemAt w' M ma ms ∧ SignsIn w' ∧ Below w.heap.size w w') := fun w' hw => by
    have hb := mem_then (mem_then hBW hBW2) hw
    exact ⟨mem_keep (mem_keep hXW hBW2) hw, mem_keep hXW2 hw, hp.below hb, hm.below hb, hg.below hb, hb⟩
  obtain ⟨hx1, _, hp2, _, hg2, _⟩ := HK.out W2 (Below.refl _ _)
  have x0 := mem_cell hx1 0
  have x1 := mem_cell hx1 1
  simp only [List.getElem?_toArray, List.getElem?_cons_zero, List.getElem?_cons_succ] at x0 x1
  have HOK := Lib.hid (ok15_any p W2 sa ta sc tc hp2 hg2)
  clear hp hm hg hBW hXW hBW2 hXW2 hx1 hp2 hg2
  go_enter Tryd.func24, Tryd.ntmps24
  go_wp2_with fail
  clear hW hW2 x0 x1
  refine HOK.out.mono ?_
  rintro e w1 ⟨rfl, hB1⟩
  have HB1 := Lib.hid hB1
  have HFIN := Lib.hid (HK.out w1 hB1).2.2.2.2.2
  obtain ⟨hx1, hx2, hp2, hm2, _, _⟩ := HK.out w1 hB1
  have x0 := mem_cell hx1 0
  have x1 := mem_cell hx1 1
  have y0 := mem_cell hx2 0
  have y1 := mem_cell hx2 1
  simp only [List.getElem?_toArray, List.getElem?_cons_zero, List.getElem?_cons_succ] at x0 x1 y0 y1
  have HRF := Lib.hid (refFits_any p M w1 sa ta sc tc ma ms mac msc hp2 hm2)
  clear HOK hB1 hx1 hx2 hp2 hm2
  cases hok : okP p with
  | false =>
    have HN : Hid (runP p task M = false) := by show _ = _; unfold runP; rw [hok, Bool.false_and]
    clear hok
    go_wp2_with fail
    go_ret
    exact ⟨by rw [HN.out]; rfl, HFIN.out⟩
  | true =>
  have HOKT := Lib.hid hok
  clear hok
  by_cases h0 : 0 ≤ task
  · have b0 : decide (0 ≤ task) = true := decide_eq_true h0
    have H0 := Lib.hid b0
    by_cases h1 : task < (p.tasks.length : Int)
    · have b1 : decide (task < (p.tasks.length : Int)) = true := decide_eq_true h1
      have HN : Hid (runP p task M = refFits p M) := by show _ = _; unfold runP; rw [HOKT.out, b0, b1]; rfl
      clear h0 h1
      go_wp2_with fail
      clear x0 x1 y0 y1
      refine HRF.out.mono ?_
      rintro e w2 ⟨rfl, hB2⟩
      have HB2 := Lib.hid (mem_then HFIN.out hB2)
      clear HRF hB2
      go_wp2_with fail
      go_ret
      exact ⟨by rw [HN.out]; rfl, HB2.out⟩
    · have b1 : decide (task < (p.tasks.length : Int)) = false := decide_eq_false h1
      have HN : Hid (runP p task M = false) := by show _ = _; unfold runP; rw [b1]; simp
      clear h0 h1
      go_wp2_with fail
      go_ret
      exact ⟨by rw [HN.out]; rfl, HFIN.out⟩
  · have b0 : decide (0 ≤ task) = false := decide_eq_false h0
    have HN : Hid (runP p task M = false) := by show _ = _; unfold runP; rw [b0]; simp
    clear h0
    go_wp2_with fail
    go_ret
    exact ⟨by rw [HN.out]; rfl, HFIN.out⟩
end Go.Proofs.YtgochgcchkdlmaaDoor
