/-
  Contracts: shape, Fits (package ontimeref16), runnable (package ontimelaw16).
-/
import Derived.Test.YtgochgcchkdlmaaDoorPuts
import Derived.Test.YtgochgcchkdlmaaDoorInMems
import Derived.Test.YtgochgcchkdlmaaDoorChkRows
namespace Go.Proofs.YtgochgcchkdlmaaDoor
set_option linter.unusedVariables false
set_option linter.unusedSimpArgs false
open Go.RowKit Go.Maps
set_option maxRecDepth 100000
set_option maxHeartbeats 80000000

theorem shape_any (D : List Arr) (L : List (List Int)) (a b : Option Addr) (c d : Nat) (w : World) (hl : ArrsAt w a D) (hm : ContAt w b L) :
    Calls Tryd.prog 39 #[.slice a D.length c, .slice b L.length d] w fun e w' => e = .returned (.bool (matchP D L)) ∧ Below w.heap.size w w' := by
  have HL := Lib.hid hl
  have HM := Lib.hid hm
  have hlf := hl.1
  have hmf := hm.fits
  clear hl hm
  by_cases hlen : D.length = L.length
  · have q0 : ((D.length : Int) != (L.length : Int)) = false := by simp [hlen]
    have HLEN := Lib.hid hlen
    clear hlen
    go_enter Tryd.func39, Tryd.ntmps39
    go_wp2_with fail
    go_loopw [5] (fun i wr => ∃ j : Nat, j ≤ D.length ∧ i = .int .i64 j ∧ matchP (D.drop j) (L.drop j) = matchP D L ∧ Below w.heap.size w wr) (fun i _ => D.length - (intOf i).toNat)
    case atStart => exact ⟨0, Nat.zero_le _, rfl, rfl, Below.refl _ _⟩
    case round =>
      obtain ⟨j, hj, rfl, hd, hB⟩ := hrel
      have HD := Lib.hid hd
      have HB := Lib.hid hB
      have hk0 : (0 : Int) ≤ (j : Int) := by omega
      clear hd hB
      by_cases hlt : j < D.length
      · have hlt2 : (j : Int) < (D.length : Int) := by omega
        have hlt3 : (j : Int) < (L.length : Int) := by have := HLEN.out; omega
        have hlt4 : j < L.length := by have := HLEN.out; omega
        obtain ⟨r, hr⟩ : ∃ r, L[j]? = some r := ⟨_, List.getElem?_eq_getElem hlt4⟩
        obtain ⟨b1, o1, rfl, hx⟩ := HL.out.2 j hlt
        obtain ⟨x, hxe⟩ : ∃ x, D.getD j Arr.none = x := ⟨_, rfl⟩
        rw [hxe] at hx
        obtain ⟨b2, o2, rfl, ra, rc, hcell, _, hw⟩ := (HM.out.below HB.out).row hr
        have hrf := hw.fits
        have HDR : Hid (matchP (D.drop j) (L.drop j) = ((x.len == (r.length : Int)) && matchP (D.drop (j + 1)) (L.drop (j + 1)))) := by show _ = _; rw [matchP_drop hlt hr, hxe]
        have x0 := cell_stay HB.out hx.1
        have x1 := cell_stay HB.out hx.2.1
        have hb1 := World.block_lt_of_cell? _ _ x0
        have hb2 := World.block_lt_of_cell? _ _ hcell
        clear hr hx hxe hw
        go_wp2_with fail
        go_quiet (fail)
        generalize hwq : World.drewN wr _ = wq
        have HQ : Hid (Below wr.heap.size wr wq) := mem_drawn (Below.refl _ _) hwq
        clear hwq hcell x0 x1
        by_cases he : x.len = (r.length : Int)
        · have hb : ((r.length : Int) != x.len) = false := by simp [he]
          have HN : Hid (matchP (D.drop (j + 1)) (L.drop (j + 1)) = matchP D L) := by
            show _ = _; rw [← HD.out, HDR.out]; simp [he]
          clear he
          go_wp2_with fail
          go_roundw
          case rel => exact ⟨j + 1, by omega, by go_num, HN.out, mem_then HB.out HQ.out⟩
          case measure => simp [intOf]; omega
        · have hb : ((r.length : Int) != x.len) = true := by simp; omega
          have HN : Hid (matchP D L = false) := by
            have hz : (x.len == (r.length : Int)) = false := by simpa using he
            show _ = _; rw [← HD.out, HDR.out, hz, Bool.false_and]
          clear he
          go_wp2_with fail
          go_ret
          exact ⟨by rw [HN.out]; rfl, mem_then HB.out HQ.out⟩
      · obtain rfl : j = D.length := by omega
        have HN : Hid (matchP D L = true) := by show _ = _; rw [← HD.out]; exact matchP_end HLEN.out
        go_wp2_with fail
        go_ret
        exact ⟨by rw [HN.out]; rfl, HB.out⟩
  · have q0 : ((D.length : Int) != (L.length : Int)) = true := by simp; omega
    have HN := Lib.hid (matchP_len hlen)
    clear hlen
    go_enter Tryd.func39, Tryd.ntmps39
    go_wp2_with fail
    go_ret
    exact ⟨by rw [HN.out]; rfl, Below.refl _ _⟩
def refFits (p : Prg) (M : Mem) : Bool := decide (M.arrays.length = p.tasks.length) && (matchP p.shared M.shared && fitsAll p.tasks M.arrays)
theorem refFits_any (p : Prg) (M : Mem) (w : World) (sa ta : Option Addr) (sc tc : Nat) (ma ms : Option Addr) (mac msc : Nat) (hp : PrgAt w p sa ta) (hm : MemAt w M ma ms) :
    Calls Tryd.prog 18 #[p.val sa sc ta tc, .slice ma M.arrays.length mac, .slice ms M.shared.length msc] w fun e w' => e = .returned (.bool (refFits p M)) ∧ Below w.heap.size w w' := by
  have hsl := hp.1.1
  have htl := hp.2.1
  have hml := hm.1.fits
  have hmsl := hm.2.fits
  obtain ⟨W, hW⟩ : ∃ W : World, w.alloc (prgObj p sa sc ta tc) = W := ⟨_, rfl⟩
  have hBW : Below w.heap.size w W := by rw [← hW]; exact mem_alloc _ _
  have hXW : W.heap[w.heap.size]? = some (prgObj p sa sc ta tc) := by rw [← hW]; exact mem_new _ _
  have HK : Hid (∀ w', Below W.heap.size W w' → w'.heap[w.heap.size]? = some (prgObj p sa sc ta tc) ∧ PrgAt w' p sa ta ∧ MemAt w' M ma ms ∧ Below w.heap.size w w') := fun w' hw => by
    have hb := mem_then hBW hw
    exact ⟨mem_keep hXW hw, hp.below hb, hm.below hb, hb⟩
  obtain ⟨hx1, hp2, hm2, hb2⟩ := HK.out W (Below.refl _ _)
  have HBX := Lib.hid hb2
  have x0 := mem_cell hx1 0
  have x1 := mem_cell hx1 1
  simp only [List.getElem?_toArray, List.getElem?_cons_zero, List.getElem?_cons_succ] at x0 x1
  have HSH := Lib.hid (shape_any p.shared M.shared sa ms sc msc W hp2.1 hm2.2)
  clear hp hm hBW hXW hx1 hp2 hm2 hb2
  by_cases hlen : M.arrays.length = p.tasks.length
  · have hlb : ((M.arrays.length : Int) != (p.tasks.length : Int)) = false := by simp [hlen]
    have HLEN := Lib.hid hlen
    clear hlen
    go_enter Tryd.func18, Tryd.ntmps18
    go_wp2_with fail
    clear hW x0 x1
    refine HSH.out.mono ?_
    rintro e w1 ⟨rfl, hB1⟩
    have HB1 := Lib.hid hB1
    clear HSH hB1
    cases hsh : matchP p.shared M.shared with
    | false =>
      have HN : Hid (refFits p M = false) := by show _ = _; unfold refFits; rw [hsh]; simp
      clear hsh
      go_wp2_with fail
      go_ret
      exact ⟨by rw [HN.out]; rfl, (HK.out _ HB1.out).2.2.2⟩
    | true =>
    have HSHT := Lib.hid hsh
    clear hsh
    go_wp2_with fail
    go_loopw [7] (fun i wr => ∃ j : Nat, j ≤ p.tasks.length ∧ i = .int .i64 j ∧ fitsAll (p.tasks.drop j) (M.arrays.drop j) = fitsAll p.tasks M.arrays ∧ Below W.heap.size W wr) (fun i _ => p.tasks.length - (intOf i).toNat)
    case atStart => exact ⟨0, Nat.zero_le _, rfl, rfl, HB1.out⟩
    case round =>
      obtain ⟨j, hj, rfl, hd, hB⟩ := hrel
      have HD := Lib.hid hd
      have HB := Lib.hid hB
      have hk0 : (0 : Int) ≤ (j : Int) := by omega
      clear hd hB
      by_cases hlt : j < p.tasks.length
      · have hlt2 : (j : Int) < (p.tasks.length : Int) := by omega
        have hlt3 : (j : Int) < (M.arrays.length : Int) := by have := HLEN.out; omega
        have hlt4 : j < M.arrays.length := by have := HLEN.out; omega
        obtain ⟨r, hr⟩ : ∃ r, M.arrays[j]? = some r := ⟨_, List.getElem?_eq_getElem hlt4⟩
        obtain ⟨_, hpr, hmr, _⟩ := HK.out wr HB.out
        obtain ⟨tb, tf, q, rfl, hc, hin⟩ := hpr.2.2 j hlt
        obtain ⟨t, ht⟩ : ∃ t, p.tasks.getD j Tsk.none = t := ⟨_, rfl⟩
        rw [ht] at hc hin
        obtain ⟨b2, o2, rfl, ra, rc, hcell, _, hw⟩ := hmr.1.row hr
        have hrf := hw.fits
        have HDR : Hid (fitsAll (p.tasks.drop j) (M.arrays.drop j) = (matchP t.arrays r && fitsAll (p.tasks.drop (j + 1)) (M.arrays.drop (j + 1)))) := by show _ = _; rw [fitsAll_drop hlt hr, ht]
        have HC := Lib.hid hcell
        have HG3 : Hid (∀ w', Below wr.heap.size wr w' → w'.cell? ⟨tb, tf + j * 8 + 3, none⟩ = some (.slice q.aa t.arrays.length q.ac)) := fun w' hw => (tsk_cells hw hc).1.2.2.2.1
        have g3 := HG3.out wr (Below.refl _ _)
        have hg3 := World.block_lt_of_cell? _ _ g3
        have HIN := Lib.hid hin.arrays
        have HWR := Lib.hid hw
        have hal := hin.arrays.1
        clear hr ht hc hin hcell hw hpr hmr
        go_upto_region 6 with fail
        clear g3
        have hD0 : Below wr.heap.size wr (World.drew wr) := (Below.refl _ _).drew
        refine wp_region_held_drew (S := fun w' => Below wr.heap.size wr w') (by kernel_rfl) hD0 (fun hHeld => ?_)
        generalize hwd : World.drew wr = v1 at hHeld hD0 ⊢
        clear hwd hD0
        refine hT 0 (.pointer (some ⟨w.heap.size, 1, none⟩)) rfl (hy := ?_) (h := ?_)
        · intro w' hSw; go_simp
        (try simp only [Act.put, pA, pB, pD, pE, pF])
        refine hT 1 (.slice (some ⟨tb, tf, none⟩) p.tasks.length tc) rfl (hy := ?_) (h := ?_)
        · intro w' hSw; have z0 := mem_cell (HK.out _ (mem_then HB.out hSw)).1 1; simp only [List.getElem?_toArray, List.getElem?_cons_zero, List.getElem?_cons_succ] at z0; go_simp
        (try simp only [Act.put, pA, pB, pC, pD, pE, pF])
        refine hT 2 (.int .i64 (j : Int)) rfl (hy := ?_) (h := ?_)
        · intro w' hSw; go_simp
        (try simp only [Act.put, pA, pB, pC, pD, pE, pF])
        refine hT 3 (.pointer (some ⟨tb, tf + j * 8, none⟩)) rfl (hy := ?_) (h := ?_)
        · intro w' hSw; go_simp
        (try simp only [Act.put, pA, pB, pC, pD, pE, pF])
        refine hT 4 (.pointer (some ⟨tb, tf + j * 8 + 3, none⟩)) rfl (hy := ?_) (h := ?_)
        · intro w' hSw; go_simp
        (try simp only [Act.put, pA, pB, pC, pD, pE, pF])
        refine hT 5 (.slice q.aa t.arrays.length q.ac) rfl (hy := ?_) (h := ?_)
        · intro w' hSw; have z0 := HG3.out _ hSw; go_simp
        (try simp only [Act.put, pA, pB, pC, pD, pE, pF])
        refine hT 6 (.slice (some ⟨b2, o2, none⟩) M.arrays.length mac) rfl (hy := ?_) (h := ?_)
        · intro w' hSw; go_simp
        (try simp only [Act.put, pA, pB, pC, pD, pE, pF])
        refine hT 7 (.int .i64 (j : Int)) rfl (hy := ?_) (h := ?_)
        · intro w' hSw; go_simp
        (try simp only [Act.put, pA, pB, pC, pD, pE, pF])
        refine hT 8 (.pointer (some ⟨b2, o2 + j, none⟩)) rfl (hy := ?_) (h := ?_)
        · intro w' hSw; go_simp
        (try simp only [Act.put, pA, pB, pC, pD, pE, pF])
        refine hT 9 (.slice ra r.length rc) rfl (hy := ?_) (h := ?_)
        · intro w' hSw; have z0 := cell_stay hSw HC.out; go_simp
        (try simp only [Act.put, pA, pB, pC, pD, pE, pF])
        have h9 := shape_any t.arrays r q.aa ra q.ac rc v1 (HIN.out.below hHeld) (HWR.out.below hHeld)
        have H9 := Lib.hid h9
        have HB3 := Lib.hid hHeld
        clear h9
        refine hR 10 rfl (fun K hK => ?_)
        go_simp
        refine H9.out.mono ?_
        rintro e w3 ⟨rfl, hB3⟩
        have HB4 := Lib.hid (mem_then HB3.out hB3)
        clear H9 hB3
        refine hK.out _ _ (HB4.out) (fun hHeld => ?_)
        clear hK K
        rename_i hOld
        clear hOld
        (try simp only [Act.put, pA, pB, pC, pD, pE, pF])
        cases hm : matchP t.arrays r with
        | false =>
          have HN : Hid (refFits p M = false) := by
            show _ = _; unfold refFits; rw [← HD.out, HDR.out, hm]; simp
          clear hm
          refine hT 11 (.bool true) rfl (hy := ?_) (h := ?_)
          · intro w' hSw; go_simp
          (try simp only [Act.put, pA, pB, pC, pD, pE, pF])
          refine wpAnyH_done (by kernel_rfl) ?_ _
          go_wp2_with fail
          go_ret
          exact ⟨by rw [HN.out]; rfl, (HK.out _ (mem_then HB.out HB4.out)).2.2.2⟩
        | true =>
          have HN : Hid (fitsAll (p.tasks.drop (j + 1)) (M.arrays.drop (j + 1)) = fitsAll p.tasks M.arrays) := by
            show _ = _; rw [← HD.out, HDR.out, hm, Bool.true_and]
          clear hm
          refine hT 11 (.bool false) rfl (hy := ?_) (h := ?_)
          · intro w' hSw; go_simp
          (try simp only [Act.put, pA, pB, pC, pD, pE, pF])
          refine wpAnyH_done (by kernel_rfl) ?_ _
          go_wp2_with fail
          go_roundw
          case rel => exact ⟨j + 1, by omega, by go_num, HN.out, mem_then HB.out HB4.out⟩
          case measure => simp [intOf]; omega
      · obtain rfl : j = p.tasks.length := by omega
        have HFA : Hid (fitsAll p.tasks M.arrays = true) := by show _ = _; rw [← HD.out]; exact fitsAll_end HLEN.out.symm
        have HE : Hid (refFits p M = true) := by show _ = _; unfold refFits; rw [HFA.out, HSHT.out, decide_eq_true HLEN.out]; rfl
        have hge : ((p.tasks.length : Int) < (M.arrays.length : Int)) = False := by have := HLEN.out; simp; omega
        have hge2 : decide ((p.tasks.length : Int) < (M.arrays.length : Int)) = false := by simpa using hge
        go_wp2_with fail
        go_ret
        exact ⟨by rw [HE.out]; rfl, (HK.out _ HB.out).2.2.2⟩
  · have hlb : ((M.arrays.length : Int) != (p.tasks.length : Int)) = true := by simp; omega
    have HN : Hid (refFits p M = false) := by show _ = _; unfold refFits; rw [decide_eq_false hlen]; simp
    clear hlen
    go_enter Tryd.func18, Tryd.ntmps18
    go_wp2_with fail
    go_ret
    exact ⟨by rw [HN.out]; rfl, by first | exact HBX.out | (rw [hW]; exact HBX.out)⟩
end Go.Proofs.YtgochgcchkdlmaaDoor
