/-
  Contract: copied (package ontimelaw17).
-/
import Derived.Test.YtjdfcpjlmfaaaaaIrOwn
import Derived.Test.YtjdfcpjlmfaaaaaIrPlain
import Derived.Test.YtjdfcpjlmfaaaaaIrFinish
import Derived.Test.YtjdfcpjlmfaaaaaIrRunC
namespace Go.Proofs.Ytjdfcpjlmfaaaaa
set_option linter.unusedVariables false
set_option linter.unusedSimpArgs false
open Go.RowKit
set_option maxRecDepth 100000

theorem Try.infoIns : (Try.prog.info? 60).map (fun i => (i.zero, i.size, i.bytes)) = some (some (.agg #[.int .u8 0, .int .i64 0, .int .i64 0, .int .i64 0, .int .i64 0, .string ⟨#[]⟩]), 6, 56) := by kernel_rfl
theorem Try.infoBlk : (Try.prog.info? 52).map (fun i => (i.zero, i.size, i.bytes)) = some (some (.agg #[.slice none 0 0, .int .u8 0, .int .i64 0, .int .i64 0, .int .i64 0]), 5, 56) := by kernel_rfl
theorem Try.infoArr : (Try.prog.info? 68).map (fun i => (i.zero, i.size, i.bytes)) = some (some (.agg #[.string ⟨#[]⟩, .int .i64 0]), 2, 24) := by kernel_rfl
/-- the value of a copy -/
def Copied (f : Fn) (w : World) (e : Ending) (w' : World) : Prop :=
  ∃ (aa : Option Addr) (ac : Nat) (ba : Option Addr) (bc : Nat) (l : List BlkP), e = .returned (fnVal f.name f.regs aa f.arrays.length ac ba f.blocks.length bc) ∧
    CopyAt w.heap.size 68 52 60 w' f (.slice aa f.arrays.length ac) (.slice ba f.blocks.length bc) l ∧ Below w.heap.size w w'
section
set_option maxHeartbeats 8000000
theorem copied_any (f : Fn) (aa ba : Option Addr) (ac bc : Nat) (w : World) (hf : FnAt w f aa ba) (hal : f.arrays.length ≤ 1000000) (hbl : f.blocks.length ≤ 1000000) (hcl : ∀ b ∈ f.blocks, b.code.length ≤ 1000000) :
    Calls Try.prog 21 #[fnVal f.name f.regs aa f.arrays.length ac ba f.blocks.length bc] w (Copied f w) := by
  have HF := Lib.hid hf
  have lb := hf.blocks.fits
  have HCL := Lib.hid hcl
  clear hf hcl
  obtain ⟨W, hW⟩ : ∃ W : World, (w.alloc (.cells #[.string f.name, .int .i64 f.regs, .slice aa f.arrays.length ac, .slice ba f.blocks.length bc] 25)).alloc (.cells #[.string ⟨#[]⟩, .int .i64 0, .slice none 0 0, .slice none 0 0] 25) = W := ⟨_, rfl⟩
  have hWs : W.heap.size = w.heap.size + 2 := by rw [← hW]; simp
  have HBW : Hid (Below w.heap.size w W) := by show Below _ _ _; rw [← hW]; exact ((Below.refl _ _).alloc (Nat.le_refl _) _).alloc (by simp) _
  have x0 : W.cell? ⟨w.heap.size, 0, none⟩ = some (.string f.name) := by rw [← hW]; simp [World.cell?_alloc_past]
  have x1 : W.cell? ⟨w.heap.size, 1, none⟩ = some (.int .i64 f.regs) := by rw [← hW]; simp [World.cell?_alloc_past]
  have x2 : W.cell? ⟨w.heap.size, 2, none⟩ = some (.slice aa f.arrays.length ac) := by rw [← hW]; simp [World.cell?_alloc_past]
  have x3 : W.cell? ⟨w.heap.size, 3, none⟩ = some (.slice ba f.blocks.length bc) := by rw [← hW]; simp [World.cell?_alloc_past]
  have HX := Lib.hid x3
  have HZ : Hid (W.heap[w.heap.size + 1]? = some (.cells #[.string ⟨#[]⟩, .int .i64 0, .slice none 0 0, .slice none 0 0] 25)) := by
    show _ = _
    rw [← hW]
    exact MapKept.heap_alloc (w.alloc _) _ |>.1 |> fun h => by simpa using h
  obtain ⟨i0, hi, hz0, hz1, hz2⟩ := info_parts Try.infoArr
  obtain ⟨W3, hW3⟩ : ∃ W3 : World, W.alloc (.cells #[.string f.name, .int .i64 f.regs, .slice aa f.arrays.length ac, .slice ba f.blocks.length bc] 25) = W3 := ⟨_, rfl⟩
  have hW3s : W3.heap.size = w.heap.size + 3 := by rw [← hW3]; simp; omega
  have HBW3 : Hid (Below W.heap.size W W3) := by show Below _ _ _; rw [← hW3]; exact (Below.refl _ _).alloc (Nat.le_refl _) _
  have HG3 : Hid (W3.heap[w.heap.size + 2]? = some (.cells #[.string f.name, .int .i64 f.regs, .slice aa f.arrays.length ac, .slice ba f.blocks.length bc] 25)) := by
    show _ = _
    rw [← hW3, ← hWs]
    exact (MapKept.heap_alloc W _).1
  have z2 := cell_below HBW3.out x2
  have HSRC : Hid (Src (W3.alloc (.cells #[] 68)) aa f.arrays.length 2 (f.arrays.flatMap arrOne)) := arrs_src (HF.out.arrays.below (HBW.out.trans ((HBW3.out.trans ((Below.refl _ _).alloc (Nat.le_refl _) _ |>.mono HBW3.out.size)).mono (by omega))))
  have HMADE : Hid ((W3.alloc (.cells #[] 68)).ownsRow (w.heap.size + 3) 68 2 (.slice (some ⟨w.heap.size + 3, 0, none⟩) 0 0) 0 []) := by
    show World.ownsRow _ _ _ _ _ _ _
    have := World.ownsRow_made (base := w.heap.size + 3) (e := 68) (size := 2) W3 #[] 0 (by omega) (by unfold maxLen; omega) rfl
    rwa [hW3s] at this
  go_enter Try.func21, Try.ntmps21
  go_wp2_with (at_builtin; refine wpList_append_src _ rfl (.tmp 7) (.tmp 9) 22 rfl (w.heap.size + 3) 68 i0 _ 2 24 Try.underlying22 hi hz0 hz1 hz2 rfl (by decide) (.slice (some ⟨w.heap.size + 3, 0, none⟩) 0 0) 0 [] rfl HMADE.out aa f.arrays.length ac (f.arrays.flatMap arrOne) rfl HSRC.out (arrOne_one _) (by unfold maxLen; omega) (by omega) (by simp; omega) ?_)
  intro v5 w5 hown5 hgrow5 hplace5
  obtain ⟨na, nc, rfl⟩ := ownsRow_val hown5
  have HG5 : Hid (w5.heap[w.heap.size + 2]? = some (.cells #[.string f.name, .int .i64 f.regs, .slice aa f.arrays.length ac, .slice ba f.blocks.length bc] 25)) :=
    (hgrow5.block _ (by simp; omega) (fun e => absurd (Option.some.inj e) (by show ¬ (w.heap.size + 2 = w.heap.size + 3); omega))).trans ((Below.heap_alloc _ _ _ (by omega)).trans HG3.out)
  have HB5 : Hid (Below W.heap.size W w5) := (HBW3.out.alloc HBW3.out.size _).grown hgrow5 (by simp; omega) (fun k hk => by cases hk; show W.heap.size ≤ w.heap.size + 3; omega)
  have HO5 := Lib.hid hown5
  have q2 : w5.cell? ⟨w.heap.size + 2, 2, none⟩ = some (.slice aa f.arrays.length ac) := cell_heap HG5.out 2
  have q3 : w5.cell? ⟨w.heap.size + 2, 3, none⟩ = some (.slice ba f.blocks.length bc) := cell_heap HG5.out 3
  have y2 : w5.frozen? ⟨w.heap.size + 2, 2, none⟩ = false := frozen_heap HG5.out 2
  have y3 : w5.frozen? ⟨w.heap.size + 2, 3, none⟩ = false := frozen_heap HG5.out 3
  have hw5s := HB5.out.size
  have HX3 := HX
  clear hown5 hgrow5 hplace5 hW hW3 x0 x1 x2 x3 z2 HSRC HMADE HG3
  go_wp2_with fail
  obtain ⟨X, hX⟩ : ∃ X : World, (w5.setCell ⟨w.heap.size + 2, 2, none⟩ (.slice na f.arrays.length nc)).setCell ⟨w.heap.size + 2, 3, none⟩ (.slice none 0 0) = X := ⟨_, rfl⟩
  have HXG : Hid (X.heap[w.heap.size + 2]? = some (.cells #[.string f.name, .int .i64 f.regs, .slice na f.arrays.length nc, .slice none 0 0] 25)) := by
    show _ = _
    rw [← hX, setCell_heap (setCell_heap HG5.out)]
    simp
  have HXO : Hid (CopyAt (w.heap.size + 3) 68 52 60 X { f with blocks := f.blocks.take 0 } (.slice na f.arrays.length nc) (.slice none 0 0) []) := by
    refine ⟨ownsRow_move HO5.out (fun k hk hl => ?_), .nil, rfl, ?_, fun p hp => by cases hp⟩
    · have := (ownsRow_lt HO5.out hk).1
      rw [← hX]
      exact (Below.heap_setCell _ _ _ _ (by show k ≠ w.heap.size + 2; omega)).trans (Below.heap_setCell _ _ _ _ (by show k ≠ w.heap.size + 2; omega))
    · cases na with
      | none => exact .inl rfl
      | some d => exact .inr (by simp [Value.ownBlock])
  have HXB : Hid (Below W.heap.size W X) := by
    show Below _ _ _
    rw [← hX]
    exact (HB5.out.setCell (by show W.heap.size ≤ w.heap.size + 2; omega) _).setCell (by show W.heap.size ≤ w.heap.size + 2; omega) _
  rw [hX]
  clear hX q2 q3 y2 y3
  go_loopw [4] (fun i wr => ∃ (k : Nat) (bv : Value) (l : List BlkP), k ≤ f.blocks.length ∧ i = .int .i64 (k : Nat) ∧ CopyAt (w.heap.size + 3) 68 52 60 wr { f with blocks := f.blocks.take k } (.slice na f.arrays.length nc) bv l ∧ wr.heap[w.heap.size + 2]? = some (.cells #[.string f.name, .int .i64 f.regs, .slice na f.arrays.length nc, bv] 25) ∧ Below W.heap.size W wr) (fun i _ => f.blocks.length - (intOf i).toNat)
  case atStart => exact ⟨0, .slice none 0 0, [], Nat.zero_le _, rfl, HXO.out, HXG.out, HXB.out⟩
  case round =>
    clear HXO HXG HXB
    obtain ⟨k, bv, l, hk, rfl, hcp, hout, hB⟩ := hrel
    have hll : l.length = k := by have := congrArg List.length hcp.eq; simpa [Nat.min_eq_left hk] using this
    have HLL := Lib.hid hll
    have HCP := Lib.hid hcp
    have HOUT := Lib.hid hout
    have HB := Lib.hid hB
    have hBs := hB.size
    have hos := lt_heap hout
    have y3 := (HB.out.cell (p := ⟨w.heap.size, 3, none⟩) (by show w.heap.size < _; omega)).trans HX.out
    have hk0 : (0 : Int) ≤ (k : Int) := by omega
    clear hll hcp hout hB
    by_cases hlt : k < f.blocks.length
    · skip
      obtain ⟨p, hp⟩ : ∃ p, f.blocks[k]? = some p := ⟨_, List.getElem?_eq_getElem hlt⟩
      have hpc := HCL.out p (List.mem_of_getElem? hp)
      have HP := Lib.hid hp
      have HBR := Lib.hid (HBW.out.trans (HB.out.mono (by omega)))
      rcases HF.out.blocks.at_ with h0 | ⟨b, off, rfl, hc⟩
      · omega
      obtain ⟨ca, cc, hblk, hcode⟩ := hc k p hp
      have HCODE := Lib.hid hcode
      obtain ⟨f0, f1, f2, f3, f4⟩ := hblk.below HBR.out
      have hk1 : (k : Int) < (f.blocks.length : Int) := by omega
      have hb9 : b < wr.heap.size := World.block_lt_of_cell? _ _ f0
      clear hc hp hblk hcode
      obtain ⟨V, hV⟩ : ∃ V : World, wr.alloc (.cells #[.slice ca p.code.length cc, .int .u8 p.kind, .int .i64 p.x, .int .i64 p.to, .int .i64 p.els] 52) = V := ⟨_, rfl⟩
      have hVs : V.heap.size = wr.heap.size + 1 := by rw [← hV]; simp
      have HBV : Hid (Below wr.heap.size wr V) := by show Below _ _ _; rw [← hV]; exact (Below.refl _ _).alloc (Nat.le_refl _) _
      have HVB : Hid (V.heap[wr.heap.size]? = some (.cells #[.slice ca p.code.length cc, .int .u8 p.kind, .int .i64 p.x, .int .i64 p.to, .int .i64 p.els] 52)) := by show _ = _; rw [← hV]; exact (MapKept.heap_alloc wr _).1
      have v0 := cell_heap HVB.out 0
      simp only [List.getElem?_toArray, List.getElem?_cons_zero] at v0
      obtain ⟨j0, hj, jz0, jz1, jz2⟩ := info_parts Try.infoIns
      have HMADE : Hid ((V.alloc (.cells #[] 60)).ownsRow (wr.heap.size + 1) 60 6 (.slice (some ⟨wr.heap.size + 1, 0, none⟩) 0 0) 0 []) := by
        show World.ownsRow _ _ _ _ _ _ _
        have := World.ownsRow_made (base := wr.heap.size + 1) (e := 60) (size := 6) V #[] 0 (by omega) (by unfold maxLen; omega) rfl
        rwa [hVs] at this
      have HSRC : Hid (Src (V.alloc (.cells #[] 60)) ca p.code.length 6 (codeCells p.code)) := code_src (HCODE.out.below (HBR.out.trans ((HBV.out.trans ((Below.refl _ _).alloc (Nat.le_refl _) _ |>.mono HBV.out.size)).mono HBR.out.size)))
      go_wp2_with (at_builtin; refine wpList_append_src _ rfl (.tmp 25) (.tmp 27) 50 rfl (wr.heap.size + 1) 60 j0 _ 6 56 Try.underlying50 hj jz0 jz1 jz2 rfl (by decide) (.slice (some ⟨wr.heap.size + 1, 0, none⟩) 0 0) 0 [] rfl HMADE.out ca p.code.length cc (codeCells p.code) rfl HSRC.out (codeCells_one _) (by unfold maxLen; omega) (by omega) (by simp; omega) ?_)
      intro v6 w6 hown6 hgrow6 hplace6
      obtain ⟨xa, xc, rfl⟩ := ownsRow_val hown6
      have HG6 : Hid (w6.heap[wr.heap.size]? = some (.cells #[.slice ca p.code.length cc, .int .u8 p.kind, .int .i64 p.x, .int .i64 p.to, .int .i64 p.els] 52)) :=
        (hgrow6.block _ (by simp; omega) (fun e => absurd (Option.some.inj e) (by show ¬ (wr.heap.size = wr.heap.size + 1); omega))).trans ((Below.heap_alloc _ _ _ (by omega)).trans HVB.out)
      have HB6 : Hid (Below wr.heap.size wr w6) := (HBV.out.alloc HBV.out.size _).grown hgrow6 (by simp; omega) (fun k hk => by cases hk; show wr.heap.size ≤ wr.heap.size + 1; omega)
      have HO6 := Lib.hid hown6
      have g0 := cell_heap HG6.out 0
      have z0 := frozen_heap HG6.out 0
      simp only [List.getElem?_toArray, List.getElem?_cons_zero, List.getElem?_cons_succ] at g0
      obtain ⟨i0, hi, hz0, hz1, hz2⟩ := info_parts Try.infoBlk
      obtain ⟨Y, hY⟩ : ∃ Y : World, w6.setCell ⟨wr.heap.size, 0, none⟩ (.slice xa p.code.length xc) = Y := ⟨_, rfl⟩
      have HYG : Hid (Y.heap[wr.heap.size]? = some (.cells #[.slice xa p.code.length xc, .int .u8 p.kind, .int .i64 p.x, .int .i64 p.to, .int .i64 p.els] 52)) := by
        show _ = _
        rw [← hY, setCell_heap HG6.out]
        simp
      have HYB : Hid (Below wr.heap.size wr Y) := by show Below _ _ _; rw [← hY]; exact HB6.out.setCell (Nat.le_refl _) _
      have HYO : Hid (Y.ownsRow wr.heap.size 60 6 (.slice xa p.code.length xc) p.code.length (codeCells p.code)) := by
        have h1 : w6.ownsRow (wr.heap.size + 1) 60 6 (.slice xa p.code.length xc) p.code.length (codeCells p.code) := by simpa using HO6.out
        rw [← hY]
        exact ownsRow_base (ownsRow_move h1 (fun k hk hl => Below.heap_setCell _ _ _ _ (by have := (ownsRow_lt h1 hk).1; show k ≠ wr.heap.size; omega))) (by omega)
      have hYs := HYB.out.size
      have HYT : Hid (Y.heap[w.heap.size + 2]? = some (.cells #[.string f.name, .int .i64 f.regs, .slice na f.arrays.length nc, bv] 25)) := (HYB.out.block _ hos).trans HOUT.out
      have HRW : Hid (Y.ownsRow (w.heap.size + 3) 52 5 bv k (l.flatMap BlkP.cells)) := by
        show World.ownsRow _ _ _ _ _ _ _
        rw [← HLL.out]
        exact (HCP.out.keep HYB.out).blks.row
      have u0 := cell_heap HYG.out 0
      have u1 := cell_heap HYG.out 1
      have u2 := cell_heap HYG.out 2
      have u3 := cell_heap HYG.out 3
      have u4 := cell_heap HYG.out 4
      have p3 := cell_heap HYT.out 3
      simp only [List.getElem?_toArray, List.getElem?_cons_zero, List.getElem?_cons_succ] at u0 u1 u2 u3 u4 p3
      have hY9 : w.heap.size + 2 < Y.heap.size := by omega
      clear hown6 hgrow6 hplace6 hV v0 f0 f1 f2 f3 f4
      go_wp2_with (at_builtin; refine wpList_append_row _ rfl (.tmp 31) (.tmp 33) 23 rfl (w.heap.size + 3) 52 i0 _ 5 56 Try.underlying23 hi hz0 hz1 hz2 rfl (by decide) bv k (l.flatMap BlkP.cells) rfl (HRW.out.alloc _) ⟨Y.heap.size, 0, none⟩ 1 1 (BlkP.cells ⟨p, xa, xc⟩) rfl rfl (blk_new Y ⟨p, xa, xc⟩ _) (BlkP.one _) (by decide) (by unfold maxLen; omega) (by omega) (by simp; omega) ?_)
      intro gb cap w7 hown7 hgrow7 hplace7
      clear hY g0 z0
      have hBA : Below Y.heap.size Y (Y.alloc (.cells #[.slice xa p.code.length xc, .int .u8 p.kind, .int .i64 p.x, .int .i64 p.to, .int .i64 p.els] 52)) := (Below.refl _ _).alloc (Nat.le_refl _) _
      have hvb : ∀ j, bv.ownBlock = some j → w.heap.size + 3 ≤ j := fun j hj => (ownsRow_lt HRW.out hj).1
      have HO7 : Hid (w7.heap[w.heap.size + 2]? = some (.cells #[.string f.name, .int .i64 f.regs, .slice na f.arrays.length nc, bv] 25)) := (hgrow7.block _ (by simp; omega) (fun e => by have := hvb _ e.symm; omega)).trans ((hBA.block _ hY9).trans HYT.out)
      have q9 : w7.cell? ⟨w.heap.size + 2, 3, none⟩ = some bv := cell_heap HO7.out 3
      have y9 : w7.frozen? ⟨w.heap.size + 2, 3, none⟩ = false := frozen_heap HO7.out 3
      have HP7 : Hid (CopyAt (w.heap.size + 3) 68 52 60 w7 { f with blocks := f.blocks.take (k + 1) } (.slice na f.arrays.length nc) (.slice (some ⟨gb, 0, none⟩) (k + 1) cap) (l ++ [⟨p, xa, xc⟩])) := by
        have hwf := HF.out.blocks.wf p (List.mem_of_getElem? HP.out)
        have := HCP.out.push (V := Y.alloc (.cells #[.slice xa p.code.length xc, .int .u8 p.kind, .int .i64 p.x, .int .i64 p.to, .int .i64 p.els] 52)) (p := ⟨p, xa, xc⟩) (by omega) (HYB.out.trans (hBA.mono HYB.out.size)) hwf (fun i hi => HCODE.out.wf i hi) hpc (HYO.out.alloc _) hgrow7 (by rw [HLL.out]; exact hown7) (by simpa using hplace7)
        rw [HLL.out] at this
        rw [take_snoc HP.out]
        exact this
      have HB7 : Hid (Below W.heap.size W w7) := ((HB.out.trans (HYB.out.mono hBs)).trans (hBA.mono (by omega))).grown hgrow7 (by simp; omega) (fun j hj => by have := hvb j hj; omega)
      clear hown7 hgrow7 hplace7 hBA hvb u0 u1 u2 u3 u4 p3
      go_wp2_with fail
      go_roundw
      case rel => exact ⟨k + 1, _, l ++ [⟨p, xa, xc⟩], by omega, by go_num, HP7.out.move (fun j h1 _ => Below.heap_setCell _ _ _ _ (by show j ≠ w.heap.size + 2; omega)), by rw [setCell_heap HO7.out]; simp, HB7.out.setCell (by show W.heap.size ≤ w.heap.size + 2; omega) _⟩
      case measure => simp [intOf]; omega
    · obtain rfl : k = f.blocks.length := by omega
      skip
      have HZR : Hid (wr.heap[w.heap.size + 1]? = some (.cells #[.string ⟨#[]⟩, .int .i64 0, .slice none 0 0, .slice none 0 0] 25)) := (HB.out.block _ (by omega)).trans HZ.out
      have p0 := cell_heap HOUT.out 0
      have p1 := cell_heap HOUT.out 1
      have p2 := cell_heap HOUT.out 2
      have p3 := cell_heap HOUT.out 3
      have q0 := cell_heap HZR.out 0
      have q1 := cell_heap HZR.out 1
      have q2 := cell_heap HZR.out 2
      have q3 := cell_heap HZR.out 3
      have z := frozen_heap HZR.out
      simp only [List.getElem?_toArray, List.getElem?_cons_zero, List.getElem?_cons_succ] at p0 p1 p2 p3 q0 q1 q2 q3
      obtain ⟨ma, mc, rfl⟩ := ownsRow_val HCP.out.blks.row
      have hlen := HLL.out
      rw [hlen] at p3
      clear hlen
      go_wp2_with fail
      have HS4 := Lib.hid (four_set (v0 := .string f.name) (v1 := .int .i64 f.regs) (v2 := .slice na f.arrays.length nc) (v3 := .slice ma f.blocks.length mc) HZR.out)
      have HB4 := Lib.hid (four_below (v0 := .string f.name) (v1 := .int .i64 f.regs) (v2 := .slice na f.arrays.length nc) (v3 := .slice ma f.blocks.length mc) (b := w.heap.size + 1) (HBW.out.trans (HB.out.mono (by omega))) (Nat.le_succ _))
      have HR4 := Lib.hid (HCP.out.move (w' := ((((wr.setCell ⟨w.heap.size + 1, 0, none⟩ (.string f.name)).setCell ⟨w.heap.size + 1, 1, none⟩ (.int .i64 f.regs)).setCell ⟨w.heap.size + 1, 2, none⟩ (.slice na f.arrays.length nc)).setCell ⟨w.heap.size + 1, 3, none⟩ (.slice ma f.blocks.length mc))) (fun k h1 h2 => four_other (by omega)))
      generalize World.setCell _ _ _ = X at HS4 HB4 HR4 ⊢
      have e0 := cell_heap HS4.out 0
      have e1 := cell_heap HS4.out 1
      have e2 := cell_heap HS4.out 2
      have e3 := cell_heap HS4.out 3
      simp only [List.getElem?_toArray, List.getElem?_cons_zero, List.getElem?_cons_succ] at e0 e1 e2 e3
      have hcp := HR4.out
      rw [HLL.out, List.take_length] at hcp
      exact bodyPost_ret (v := fnVal f.name f.regs na f.arrays.length nc ma f.blocks.length mc) (by simp [results, Try.results21, go_sem, e0, e1, e2, e3]) rfl ⟨na, nc, ma, mc, l, rfl, hcp.base (by omega), HB4.out⟩
end
end Go.Proofs.Ytjdfcpjlmfaaaaa
