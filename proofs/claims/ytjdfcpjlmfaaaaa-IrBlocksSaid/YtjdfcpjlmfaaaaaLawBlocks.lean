/-
  IrBlocks (package ontimelaw17): an unreachable block, and the entry split by a jump, change at most the number of steps.
-/
import Derived.Test.YtjdfcpjlmfaaaaaLawFns17
import Derived.Test.YtjdfcpjlmfaaaaaIrAwake
import Derived.Test.YtjdfcpjlmfaaaaaIrCopied
import Derived.Test.YtjdfcpjlmfaaaaaIrCut
import Derived.Test.YtjdfcpjlmfaaaaaIrOcEq
import Derived.Deep.RegionHeld3
import Derived.StillTailTactics
namespace Go.Proofs.Ytjdfcpjlmfaaaaa
set_option linter.unusedVariables false
set_option linter.unusedSimpArgs false
open Go.RowKit
set_option maxRecDepth 100000
set_option maxHeartbeats 16000000

theorem oc_cells {W w' : World} {n : Nat} {c0 c1 c2 c3 c4 c5 : Value} {T : TypeId} (h : W.heap[n]? = some (.cells #[c0, c1, c2, c3, c4, c5] T)) (hB : Below W.heap.size W w') :
    w'.cell? ⟨n, 0, none⟩ = some c0 ∧ w'.cell? ⟨n, 1, none⟩ = some c1 ∧ w'.cell? ⟨n, 2, none⟩ = some c2 ∧ w'.cell? ⟨n, 3, none⟩ = some c3 ∧ w'.cell? ⟨n, 4, none⟩ = some c4 ∧ w'.cell? ⟨n, 5, none⟩ = some c5 := by
  have h' := (hB.block n (lt_heap h)).trans h
  exact ⟨cell_heap h' 0, cell_heap h' 1, cell_heap h' 2, cell_heap h' 3, cell_heap h' 4, cell_heap h' 5⟩
theorem fn_cells {W w' : World} {n : Nat} {c0 c1 c2 c3 : Value} {T : TypeId} (h : W.heap[n]? = some (.cells #[c0, c1, c2, c3] T)) (hB : Below W.heap.size W w') :
    w'.cell? ⟨n, 0, none⟩ = some c0 ∧ w'.cell? ⟨n, 1, none⟩ = some c1 ∧ w'.cell? ⟨n, 2, none⟩ = some c2 ∧ w'.cell? ⟨n, 3, none⟩ = some c3 := by
  have h' := (hB.block n (lt_heap h)).trans h
  exact ⟨cell_heap h' 0, cell_heap h' 1, cell_heap h' 2, cell_heap h' 3⟩
theorem five_new (w : World) (a b c d e : Value) (T : TypeId) : ∀ (j : Nat) (x : Value), [a, b, c, d, e][j]? = some x → (w.alloc (.cells #[a, b, c, d, e] T)).cell? ((⟨w.heap.size, 0, none⟩ : Addr).add j) = some x := by
  intro j x hx
  rw [addr_add, Nat.zero_add, World.cell?_alloc_new]
  simpa using hx
theorem arrs_len {f : Fn} {shared : List (ByteArray × Int)} (h : fnOk f shared = true) : f.arrays.length ≤ 4 := by
  obtain ⟨_, _, _, h4, _⟩ := fnOk_parts h
  exact h4
theorem irBlocks_any (f : Fn) (shared : List (ByteArray × Int)) (arrays objects : List (List Int)) (inp : List Int) (at_ : Int) (hn0 : 0 ≤ at_) (hn1 : at_ ≤ 255) (aa ba sa ara oba ia : Option Addr) (ac bc sc arc obc ic : Nat) (w : World) (hf : FnAt w f aa ba) (hs : ArrsAt w sa shared)
    (ha : ContAt w ara arrays) (ho : ContAt w oba objects) (hin : WordsAt w ia inp) :
    Calls Try.prog 5 #[fnVal f.name f.regs aa f.arrays.length ac ba f.blocks.length bc, .slice sa shared.length sc, .slice ara arrays.length arc, .slice oba objects.length obc, .slice ia inp.length ic, .int .u8 at_] w fun e w' => e = .returned (.bool true) ∧ Below w.heap.size w w' := by
  have HF := Lib.hid hf
  have HS := Lib.hid hs
  have HA := Lib.hid ha
  have HO := Lib.hid ho
  have HI := Lib.hid hin
  have ls := hs.fits
  have li := hin.fits
  clear hf hs ha ho hin
  obtain ⟨W, hW⟩ : ∃ W : World, w.alloc (.cells #[.string f.name, .int .i64 f.regs, .slice aa f.arrays.length ac, .slice ba f.blocks.length bc] 25) = W := ⟨_, rfl⟩
  have hWs : W.heap.size = w.heap.size + 1 := by rw [← hW]; simp
  have HBW : Hid (Below w.heap.size w W) := by show Below _ _ _; rw [← hW]; exact (Below.refl _ _).alloc (Nat.le_refl _) _
  have HX : Hid (W.heap[w.heap.size]? = some (.cells #[.string f.name, .int .i64 f.regs, .slice aa f.arrays.length ac, .slice ba f.blocks.length bc] 25)) := by show _ = _; rw [← hW]; exact heap_new _ _
  have HFW := Lib.hid (HF.out.below HBW.out)
  have HSW := Lib.hid (HS.out.below HBW.out)
  have HAW := Lib.hid (HA.out.below HBW.out)
  have HOW := Lib.hid (HO.out.below HBW.out)
  have HIW := Lib.hid (HI.out.below HBW.out)
  have hnW : w.heap.size < W.heap.size := by omega
  go_enter Try.func5, Try.ntmps5
  go_wp2_with fail
  clear hW
  refine (awake_any W).mono ?_
  rintro e w1 ⟨rfl, hB1⟩
  have HB1 := Lib.hid hB1
  clear hB1
  obtain ⟨y0, y1, y2, y3⟩ := fn_cells HX.out HB1.out
  go_wp2_with fail
  refine (small_any f aa ba ac bc w1 (HFW.out.below HB1.out)).mono ?_
  rintro e w2 ⟨rfl, hB2⟩
  have HB2 := Lib.hid (below_next HB1.out hB2)
  clear hB2 y0 y1 y2 y3
  cases hsm : smallOk f with
  | false =>
    simp only [bit01, cond_false]
    go_wp2_with fail
    go_ret
    exact ⟨rfl, HBW.out.trans (HB2.out.mono (by omega))⟩
  | true =>
  simp only [bit01, cond_true]
  by_cases hl : 12 < shared.length
  · have hl' : (12 : Int) < (shared.length : Int) := by omega
    go_wp2_with fail
    go_ret
    exact ⟨rfl, HBW.out.trans (HB2.out.mono (by omega))⟩
  have hl' : decide ((12 : Int) < (shared.length : Int)) = false := by simp; omega
  have hl3 : shared.length ≤ 12 := by omega
  have HSM := Lib.hid (small_blocks hsm)
  clear hsm hl
  go_wp2_with fail
  refine (conts_any arrays ara arc w2 (HAW.out.below HB2.out)).mono ?_
  rintro e w2' ⟨rfl, rfl⟩
  cases hc1 : contsOk arrays with
  | false =>
    simp only [bit01, cond_false]
    go_wp2_with fail
    go_ret
    exact ⟨rfl, HBW.out.trans (HB2.out.mono (by omega))⟩
  | true =>
  simp only [bit01, cond_true]
  go_wp2_with fail
  refine (conts_any objects oba obc w2 (HOW.out.below HB2.out)).mono ?_
  rintro e w2' ⟨rfl, rfl⟩
  cases hc2 : contsOk objects with
  | false =>
    simp only [bit01, cond_false]
    go_wp2_with fail
    go_ret
    exact ⟨rfl, HBW.out.trans (HB2.out.mono (by omega))⟩
  | true =>
  simp only [bit01, cond_true]
  have HC1 := Lib.hid (conts_short hc1)
  have HC2 := Lib.hid (conts_short hc2)
  clear hc1 hc2
  by_cases hi : 40 < inp.length
  · have hi' : (40 : Int) < (inp.length : Int) := by omega
    go_wp2_with fail
    go_ret
    exact ⟨rfl, HBW.out.trans (HB2.out.mono (by omega))⟩
  have hi' : decide ((40 : Int) < (inp.length : Int)) = false := by simp; omega
  obtain ⟨y0, y1, y2, y3⟩ := fn_cells HX.out HB2.out
  go_wp2_with fail
  refine (valid_any f shared aa ba sa ac bc sc w2 (HFW.out.below HB2.out) (HSW.out.below HB2.out) (by omega)).mono ?_
  rintro e w3 ⟨rfl, hB3⟩
  have HB3 := Lib.hid (below_next HB2.out hB3)
  clear hB3 y0 y1 y2 y3
  cases hv : fnOk f shared with
  | false =>
    clear hv
    go_wp2_with fail
    go_ret
    exact ⟨rfl, HBW.out.trans (HB3.out.mono (by omega))⟩
  | true =>
  have HV := Lib.hid hv
  have hal := arrs_len hv
  have hbl := HSM.out.1
  clear hv hl' hi' hi
  obtain ⟨y0, y1, y2, y3⟩ := fn_cells HX.out HB3.out
  go_wp2_with fail
  refine (run_any f shared arrays objects inp 300 aa ba sa ara oba ia ac bc sc arc obc ic w3 (HFW.out.below HB3.out) (HSW.out.below HB3.out) (by omega) (HAW.out.below HB3.out) (HOW.out.below HB3.out) HC1.out HC2.out (HIW.out.below HB3.out) (by decide)).mono ?_
  rintro e w4 ⟨v1, rfl, hoc1, hB4⟩
  have HB4 := Lib.hid (below_next HB3.out hB4)
  have HRS := Lib.hid (fun (b0 : Blk) (k : Nat) => run_split (f := f) (shared := shared) (arrays := arrays) (objects := objects) (inp := inp) (b0 := b0) (k := k) HV.out)
  have HRX : Hid (runOf { f with blocks := f.blocks ++ [⟨[], 3, 0, 0, 0⟩] } shared arrays objects inp 300 = runOf f shared arrays objects inp 300) := run_ext HV.out
  obtain ⟨o1, ho1⟩ : ∃ o, runOf f shared arrays objects inp 300 = o := ⟨_, rfl⟩
  rw [ho1] at hoc1 HRS HRX
  have HOC1 := Lib.hid hoc1
  clear ho1 y0 y1 y2 y3 hB4
  obtain ⟨aa1, oa1, ua1, ac1, oc1, uc1, rfl, hva1, hvo1, hvu1, hcap1, hcm1, hcn1⟩ := hoc1
  have HV1 := Lib.hid (And.intro hva1 (And.intro hvo1 hvu1))
  clear hva1 hvo1 hvu1 hcap1 hcm1 hcn1
  obtain ⟨Y, hY⟩ : ∃ Y : World, w4.alloc (.cells #[.slice aa1 o1.arrays.length ac1, .slice oa1 o1.objects.length oc1, .slice ua1 o1.out.length uc1, .int .i64 (o1.read : Nat), .int .i64 (o1.steps : Nat), .int .i64 o1.err] 41) = Y := ⟨_, rfl⟩
  have hYs : w4.heap.size < Y.heap.size := by rw [← hY]; simp
  have HBY : Hid (Below w4.heap.size w4 Y) := by show Below _ _ _; rw [← hY]; exact (Below.refl _ _).alloc (Nat.le_refl _) _
  have HYO : Hid (Y.heap[w4.heap.size]? = some (.cells #[.slice aa1 o1.arrays.length ac1, .slice oa1 o1.objects.length oc1, .slice ua1 o1.out.length uc1, .int .i64 (o1.read : Nat), .int .i64 (o1.steps : Nat), .int .i64 o1.err] 41)) := by show _ = _; rw [← hY]; exact heap_new _ _
  have HB5 := Lib.hid (below_next HB4.out HBY.out)
  have h4s := HB4.out.size
  obtain ⟨y0, y1, y2, y3⟩ := fn_cells HX.out HB5.out
  go_wp2_with fail
  clear hY y0 y1 y2 y3
  refine (copied_any f aa ba ac bc Y (HFW.out.below HB5.out) (by omega) (by omega) (fun b hb => by have := HSM.out.2 b hb; omega)).mono ?_
  rintro e w6 ⟨na, nc, ma, mc, l, rfl, hcp, hB6⟩
  have HCP := Lib.hid hcp
  have HB6 := Lib.hid (below_next HB5.out hB6)
  have HB6Y := Lib.hid hB6
  clear hcp hB6
  have hll : l.length = f.blocks.length := by have := congrArg List.length HCP.out.eq; simpa using this
  have HLL := Lib.hid hll
  clear hll
  obtain ⟨Z, hZ⟩ : ∃ Z : World, w6.alloc (.cells #[.string f.name, .int .i64 f.regs, .slice na f.arrays.length nc, .slice ma f.blocks.length mc] 25) = Z := ⟨_, rfl⟩
  have hz9 : w6.heap.size < Z.heap.size := by rw [← hZ]; simp
  have h6s := HB6Y.out.size
  have HBZ : Hid (Below w6.heap.size w6 Z) := by show Below _ _ _; rw [← hZ]; exact (Below.refl _ _).alloc (Nat.le_refl _) _
  have HZO : Hid (Z.heap[w6.heap.size]? = some (.cells #[.string f.name, .int .i64 f.regs, .slice na f.arrays.length nc, .slice ma f.blocks.length mc] 25)) := by show _ = _; rw [← hZ]; exact heap_new _ _
  have HB7 := Lib.hid (below_next HB6.out HBZ.out)
  have HBYZ := Lib.hid (below_next HB6Y.out HBZ.out)
  have HCZ := Lib.hid (HCP.out.keep HBZ.out)
  have HRW : Hid (Z.ownsRow Y.heap.size 52 5 (.slice ma f.blocks.length mc) f.blocks.length (l.flatMap BlkP.cells)) := by
    show World.ownsRow _ _ _ _ _ _ _
    have := HCZ.out.blks.row
    rwa [HLL.out] at this
  obtain ⟨i0, hi, hz0, hz1, hz2⟩ := info_parts Try.infoBlk
  have g3 := cell_heap HZO.out 3
  simp only [List.getElem?_toArray, List.getElem?_cons_zero, List.getElem?_cons_succ] at g3
  go_wp2_with (at_builtin; refine wpList_append_row _ rfl (.tmp 59) (.tmp 61) 23 rfl Y.heap.size 52 i0 _ 5 56 Try.underlying23 hi hz0 hz1 hz2 rfl (by decide) (.slice ma f.blocks.length mc) f.blocks.length (l.flatMap BlkP.cells) rfl (HRW.out.alloc _) ⟨Z.heap.size, 0, none⟩ 1 1 (BlkP.cells ⟨⟨[], 3, 0, 0, 0⟩, none, 0⟩) rfl rfl (blk_new Z ⟨⟨[], 3, 0, 0, 0⟩, none, 0⟩ _) (BlkP.one _) (by decide) (by unfold maxLen; omega) (by omega) (by simp; omega) ?_)
  intro gb cap w8 hown8 hgrow8 hplace8
  clear hZ g3
  have hvb : ∀ j, (Value.slice ma f.blocks.length mc).ownBlock = some j → Y.heap.size ≤ j ∧ j < w6.heap.size := fun j hj => ownsRow_lt HCP.out.blks.row hj
  have hBA : Below Z.heap.size Z (Z.alloc (.cells #[.slice none 0 0, .int .u8 3, .int .i64 0, .int .i64 0, .int .i64 0] 52)) := (Below.refl _ _).alloc (Nat.le_refl _) _
  have HG8 : Hid (w8.heap[w6.heap.size]? = some (.cells #[.string f.name, .int .i64 f.regs, .slice na f.arrays.length nc, .slice ma f.blocks.length mc] 25)) := (hgrow8.block _ (by simp; omega) (fun e => by have := (hvb _ e.symm).2; omega)).trans ((hBA.block _ hz9).trans HZO.out)
  have q9 : w8.cell? ⟨w6.heap.size, 3, none⟩ = some (.slice ma f.blocks.length mc) := cell_heap HG8.out 3
  have z9 : w8.frozen? ⟨w6.heap.size, 3, none⟩ = false := frozen_heap HG8.out 3
  have HB8 : Hid (Below Y.heap.size Y w8) := (below_next HBYZ.out hBA).grown hgrow8 (by simp; omega) (fun j hj => (hvb j hj).1)
  have HP8 : Hid (CopyAt Y.heap.size 68 52 60 w8 { f with blocks := f.blocks ++ [⟨[], 3, 0, 0, 0⟩] } (.slice na f.arrays.length nc) (.slice (some ⟨gb, 0, none⟩) (f.blocks.length + 1) cap) (l ++ [⟨⟨[], 3, 0, 0, 0⟩, none, 0⟩])) := by
    have := HCZ.out.push (V := Z.alloc (.cells #[.slice none 0 0, .int .u8 3, .int .i64 0, .int .i64 0, .int .i64 0] 52)) (p := ⟨⟨[], 3, 0, 0, 0⟩, none, 0⟩) (by omega) hBA ⟨by decide, by decide, ⟨by decide, by decide⟩, ⟨by decide, by decide⟩, ⟨by decide, by decide⟩⟩ (fun i hi => (by cases hi)) (Nat.zero_le _) ⟨rfl, .inl ⟨rfl, rfl⟩⟩ hgrow8 (by rw [HLL.out]; exact hown8) (by simpa using hplace8)
    rw [HLL.out] at this
    exact this
  obtain ⟨X, hX⟩ : ∃ X : World, w8.setCell ⟨w6.heap.size, 3, none⟩ (.slice (some ⟨gb, 0, none⟩) (f.blocks.length + 1) cap) = X := ⟨_, rfl⟩
  have HXG : Hid (X.heap[w6.heap.size]? = some (.cells #[.string f.name, .int .i64 f.regs, .slice na f.arrays.length nc, .slice (some ⟨gb, 0, none⟩) (f.blocks.length + 1) cap] 25)) := by
    show _ = _
    rw [← hX, setCell_heap HG8.out]
    simp
  have HXC : Hid (CopyAt Y.heap.size 68 52 60 X { f with blocks := f.blocks ++ [⟨[], 3, 0, 0, 0⟩] } (.slice na f.arrays.length nc) (.slice (some ⟨gb, 0, none⟩) (f.blocks.length + 1) cap) (l ++ [⟨⟨[], 3, 0, 0, 0⟩, none, 0⟩])) := by
    show CopyAt _ _ _ _ _ _ _ _ _
    rw [← hX]
    exact HP8.out.setBox HG8.out (by decide) (by decide) (by decide)
  have HBYX : Hid (Below Y.heap.size Y X) := by show Below _ _ _; rw [← hX]; exact HB8.out.setCell h6s _
  have HBX := Lib.hid (below_next HB5.out HBYX.out)
  have HFX : Hid (FnAt X { f with blocks := f.blocks ++ [⟨[], 3, 0, 0, 0⟩] } na (some ⟨gb, 0, none⟩)) :=
    CopyAt.fnAt (ac := nc) (bc := cap) (by have := HXC.out; simpa using this) HF.out.regs HF.out.name HF.out.arrays.sizes HF.out.arrays.fits (by simp; omega)
  have HXO := Lib.hid ((HBYX.out.block _ hYs).trans HYO.out)
  have QR : Hid (∀ W', Below X.heap.size X W' → Calls Try.prog 17 #[fnVal f.name f.regs na f.arrays.length nc (some ⟨gb, 0, none⟩) (f.blocks.length + 1) cap, .slice sa shared.length sc, .slice ara arrays.length arc, .slice oba objects.length obc, .slice ia inp.length ic, .int .i64 300] W' fun e w' => ∃ v, e = .returned v ∧ OcAt w' v o1 ∧ Below W'.heap.size W' w') := fun W' h => by
    have hbw := below_next HBX.out h
    have := run_any { f with blocks := f.blocks ++ [⟨[], 3, 0, 0, 0⟩] } shared arrays objects inp 300 na (some ⟨gb, 0, none⟩) sa ara oba ia nc cap sc arc obc ic W' (HFX.out.below h) (HSW.out.below hbw) (by omega) (HAW.out.below hbw) (HOW.out.below hbw) HC1.out HC2.out (HIW.out.below hbw) (by decide)
    rw [HRX.out] at this
    simpa using this
  have HKC : Hid (∀ W', Below X.heap.size X W' → W'.cell? ⟨w4.heap.size, 0, none⟩ = some (.slice aa1 o1.arrays.length ac1) ∧ W'.cell? ⟨w4.heap.size, 1, none⟩ = some (.slice oa1 o1.objects.length oc1) ∧ W'.cell? ⟨w4.heap.size, 2, none⟩ = some (.slice ua1 o1.out.length uc1) ∧ W'.cell? ⟨w4.heap.size, 3, none⟩ = some (.int .i64 (o1.read : Nat)) ∧ W'.cell? ⟨w4.heap.size, 4, none⟩ = some (.int .i64 (o1.steps : Nat)) ∧ W'.cell? ⟨w4.heap.size, 5, none⟩ = some (.int .i64 o1.err) ∧
      W'.cell? ⟨w6.heap.size, 0, none⟩ = some (.string f.name) ∧ W'.cell? ⟨w6.heap.size, 1, none⟩ = some (.int .i64 f.regs) ∧ W'.cell? ⟨w6.heap.size, 2, none⟩ = some (.slice na f.arrays.length nc) ∧ W'.cell? ⟨w6.heap.size, 3, none⟩ = some (.slice (some ⟨gb, 0, none⟩) (f.blocks.length + 1) cap) ∧ Below X.heap.size X W') := fun W' h => by
    obtain ⟨a0, a1, a2, a3, a4, a5⟩ := oc_cells HXO.out h
    obtain ⟨b0, b1, b2, b3⟩ := fn_cells HXG.out h
    exact ⟨a0, a1, a2, a3, a4, a5, b0, b1, b2, b3, h⟩
  have HOX : Hid (OcAt X (.agg #[.slice aa1 o1.arrays.length ac1, .slice oa1 o1.objects.length oc1, .slice ua1 o1.out.length uc1, .int .i64 (o1.read : Nat), .int .i64 (o1.steps : Nat), .int .i64 o1.err]) o1) := HOC1.out.below (below_next HBY.out HBYX.out)
  clear hown8 hgrow8 hplace8 hvb hBA
  go_wp2_with fail
  clear hX q9 z9
  obtain ⟨a0, a1, a2, a3, a4, a5, b0, b1, b2, b3, hb0⟩ := HKC.out X (Below.refl _ _)
  go_region_held3 (fun W' => W'.cell? ⟨w4.heap.size, 0, none⟩ = some (.slice aa1 o1.arrays.length ac1) ∧ W'.cell? ⟨w4.heap.size, 1, none⟩ = some (.slice oa1 o1.objects.length oc1) ∧ W'.cell? ⟨w4.heap.size, 2, none⟩ = some (.slice ua1 o1.out.length uc1) ∧ W'.cell? ⟨w4.heap.size, 3, none⟩ = some (.int .i64 (o1.read : Nat)) ∧ W'.cell? ⟨w4.heap.size, 4, none⟩ = some (.int .i64 (o1.steps : Nat)) ∧ W'.cell? ⟨w4.heap.size, 5, none⟩ = some (.int .i64 o1.err) ∧
      W'.cell? ⟨w6.heap.size, 0, none⟩ = some (.string f.name) ∧ W'.cell? ⟨w6.heap.size, 1, none⟩ = some (.int .i64 f.regs) ∧ W'.cell? ⟨w6.heap.size, 2, none⟩ = some (.slice na f.arrays.length nc) ∧ W'.cell? ⟨w6.heap.size, 3, none⟩ = some (.slice (some ⟨gb, 0, none⟩) (f.blocks.length + 1) cap) ∧ Below X.heap.size X W')
    (first | (go_split_ands; exact HKC.out _ (below_next (by assumption) hB9)) | (go_split_ands; exact HKC.out _ (below_drawn (by assumption))) | (go_split_ands; exact HKC.out _ (by assumption)))
    (first
      | (go_at_call 17; go_split_ands; refine (QR.out _ (by assumption)).mono ?_; rintro e w9 ⟨v2, rfl, hoc2, hB9⟩)
      | (go_at_call 22; go_split_ands; refine (equal_eq o1 _ _ _ (HOX.out.below (by assumption)) (by first | exact hoc2 | exact hoc2.below hB9)).mono ?_; rintro e w9 ⟨rfl, hB9⟩))
  go_split_ands
  rename Below X.heap.size X _ => hBQ
  have HBQ := Lib.hid (below_next HBX.out hBQ)
  have HBYQ := Lib.hid (below_next HBYX.out hBQ)
  clear a0 a1 a2 a3 a4 a5 b0 b1 b2 b3 hb0 QR HKC HRX
  obtain ⟨y0, y1, y2, y3⟩ := fn_cells HX.out HBQ.out
  go_wp2_with fail
  clear y0 y1 y2 y3
  refine (copied_any f aa ba ac bc _ (HFW.out.below HBQ.out) (by omega) (by omega) (fun b hb => by have := HSM.out.2 b hb; omega)).mono ?_
  rintro e w10 ⟨na2, nc2, ma2, mc2, l2, rfl, hcp, hB10⟩
  have HCP2 := Lib.hid hcp
  have HBY10 := Lib.hid (below_next HBYQ.out hB10)
  have HB9 := Lib.hid hB10
  have HB10 := Lib.hid (below_next HBQ.out hB10)
  have h9s := HBYQ.out.size
  have h10s := hB10.size
  clear hcp hB10 hB9 hoc2
  have hll2 : l2.length = f.blocks.length := by have := congrArg List.length HCP2.out.eq; simpa using this
  have HLL2 := Lib.hid hll2
  clear hll2
  obtain ⟨b0, hb0⟩ : ∃ b0, f.blocks[0]? = some b0 := by
    obtain ⟨h1, _⟩ := fnOk_parts HV.out
    exact ⟨_, List.getElem?_eq_getElem h1⟩
  obtain ⟨hb, p0, rfl, hp0, hbc, hfirst⟩ := HCP2.out.first hb0
  have HP0 := Lib.hid hp0
  have HB0 := Lib.hid hb0
  have hlen0 := HSM.out.2 b0 (List.mem_of_getElem? hb0)
  clear hp0 hb0
  obtain ⟨Z2, hZ2⟩ : ∃ Z2 : World, w10.alloc (.cells #[.string f.name, .int .i64 f.regs, .slice na2 f.arrays.length nc2, .slice (some ⟨hb, 0, none⟩) f.blocks.length mc2] 25) = Z2 := ⟨_, rfl⟩
  have hzz : w10.heap.size < Z2.heap.size := by rw [← hZ2]; simp
  have HBZ2 : Hid (Below w10.heap.size w10 Z2) := by show Below _ _ _; rw [← hZ2]; exact (Below.refl _ _).alloc (Nat.le_refl _) _
  have HZ2O : Hid (Z2.heap[w10.heap.size]? = some (.cells #[.string f.name, .int .i64 f.regs, .slice na2 f.arrays.length nc2, .slice (some ⟨hb, 0, none⟩) f.blocks.length mc2] 25)) := by show _ = _; rw [← hZ2]; exact heap_new _ _
  have HFI := Lib.hid (hfirst.below HBZ2.out)
  have hhb := hfirst.hi
  have hhb2 := hfirst.lo
  have hlies := hfirst.lies
  clear hfirst
  have g3 := cell_heap HZ2O.out 3
  simp only [List.getElem?_toArray, List.getElem?_cons_zero, List.getElem?_cons_succ] at g3
  obtain ⟨f0, f1, f2, f3, f4⟩ := HFI.out.cells
  have hbn : (0 : Int) < (f.blocks.length : Int) := by have := (List.getElem?_eq_some_iff.1 HB0.out).1; omega
  have hbn0 : 0 < f.blocks.length := by omega
  have hlen1 : ((b0.code.length : Nat) : Int) ≤ 40 := by omega
  have hcap0 := HFI.out.cap
  obtain ⟨kn, hkn⟩ : ∃ kn : Nat, at_ % ((b0.code.length : Int) + 1) = (kn : Int) := ⟨(at_ % ((b0.code.length : Int) + 1)).toNat, by have := Int.emod_nonneg at_ (b := (b0.code.length : Int) + 1) (by omega); omega⟩
  have hkl : kn ≤ b0.code.length := by have := Int.emod_lt_of_pos at_ (b := (b0.code.length : Int) + 1) (by omega); omega
  have hk0 : (0 : Int) ≤ (kn : Int) := by omega
  have hk1 : (kn : Int) ≤ (b0.code.length : Int) := by omega
  have hhbZ := HFI.out.hi
  have HRS0 := Lib.hid (HRS.out b0 kn HB0.out hkl)
  have HBZ2Y := Lib.hid (below_next HBY10.out HBZ2.out)
  obtain ⟨pb, pa, pc⟩ := p0
  have hdrop : b0.code.length - kn = (b0.code.drop kn).length := by rw [List.length_drop]
  have HDROP := Lib.hid hdrop
  have hcode := HFI.out.code
  have hne := HFI.out.ne
  have hnil := HFI.out.nil
  have hat0 := HFI.out.at0
  clear hdrop HRS
  simp only at hcode hlies hne hnil hat0 hcap0 f0 HP0
  have HCASE : Hid ((pa = none ∧ pc = 0 ∧ kn = 0) ∨ (∃ cb, pa = some ⟨cb, 0, none⟩ ∧ pc = kn) ∨ (∃ cb, pa = some ⟨cb, 0, none⟩ ∧ ¬ pc = kn)) := by
    cases pa with
    | none => exact .inl ⟨rfl, hnil rfl, by have := hnil rfl; omega⟩
    | some d =>
      obtain ⟨cb, co, cs⟩ := d
      obtain ⟨e1, e2⟩ := hat0 _ rfl
      simp only at e1 e2
      subst e1 e2
      by_cases hck : pc = kn
      · exact .inr (.inl ⟨cb, rfl, hck⟩)
      · exact .inr (.inr ⟨cb, rfl, hck⟩)
  have HPC := Lib.hid (And.intro hcode (And.intro hlies hne))
  clear hcode hlies hne hnil hat0
  have hkp : kn ≤ pc := by omega
  have hne1 : w10.heap.size ≠ hb := by omega
  have hne2 : hb ≠ w10.heap.size := by omega
  have hne3 : Z2.heap.size ≠ hb := by omega
  have hne4 : hb ≠ Z2.heap.size := by omega
  have HREST : Hid (∀ (R : World) (ra : Option Addr) (rc : Nat), Z2.alloc (.cells #[.slice ra (b0.code.length - kn) rc, .int .u8 b0.kind, .int .i64 b0.x, .int .i64 b0.to, .int .i64 b0.els] 52) = R → CodeAt Z2 ra (b0.code.drop kn) → LiesIn w9.heap.size w10.heap.size ra → (∀ d, ra = some d → hb ≠ d.block) →
      ∃ (dn : Nat) (ra : Option Addr) (rc : Nat), Hid (dn = (b0.code.drop kn).length) ∧ Hid (R.heap[Z2.heap.size]? = some (.cells #[.slice ra dn rc, .int .u8 b0.kind, .int .i64 b0.x, .int .i64 b0.to, .int .i64 b0.els] 52)) ∧ Hid (Below Z2.heap.size Z2 R) ∧ Hid (CodeAt R ra (b0.code.drop kn)) ∧ Hid (LiesIn w9.heap.size w10.heap.size ra) ∧ Hid (∀ d, ra = some d → hb ≠ d.block)) := by
    intro R ra rc hR h1 h2 h3
    have hB : Below Z2.heap.size Z2 R := by rw [← hR]; exact (Below.refl _ _).alloc (Nat.le_refl _) _
    exact ⟨_, ra, rc, HDROP.out, by show _ = _; rw [← hR]; exact heap_new _ _, hB, h1.below hB, h2, h3⟩
  -- TAIL
  rcases HCASE.out with ⟨rfl, rfl, rfl⟩ | ⟨cb, rfl, rfl⟩ | ⟨cb, rfl, hck⟩
  · clear HCASE
    go_wp2_with fail
    generalize hR : World.alloc Z2 _ = R
    obtain ⟨dn, ra, rc, HDN, HRO, HRB, HRC, HRL, HRN⟩ := HREST.out R none 0 (by rw [← hR]; simp [show b0.code.length = 0 from by omega]) (by simpa using HPC.out.1) HPC.out.2.1 HPC.out.2.2
    clear hR
    have hRs := HRB.out.size
    have HFR := Lib.hid (HFI.out.below HRB.out)
    obtain ⟨k0, k1, k2, k3, k4⟩ := HFR.out.cells
    have HRG := Lib.hid ((HRB.out.block _ hzz).trans HZ2O.out)
    have g3R := cell_heap HRG.out 3
    simp only [List.getElem?_toArray, List.getElem?_cons_zero, List.getElem?_cons_succ] at g3R k0
    clear f0 f1 f2 f3 f4 g3
    go_still_tail 14, (by kernel_rfl)
    change wpList _ _ _ _ _ R.drew
    clear k0 k1 k2 k3 k4 g3R
    generalize hD : R.drew = D
    have HDB : Hid (Below Z2.heap.size Z2 D) := by show Below _ _ _; rw [← hD]; exact below_drawn HRB.out
    have HDR : Hid (Below R.heap.size R D) := by show Below _ _ _; rw [← hD]; exact (Below.refl _ _).drew
    clear hD
    have hDs := HDB.out.size
    have hDR := HDR.out.size
    have hZR := lt_heap HRO.out
    have HFD := Lib.hid (HFI.out.below HDB.out)
    obtain ⟨k0, k1, k2, k3, k4⟩ := HFD.out.cells
    have z0 := HFD.out.free 0
    have z1 := HFD.out.free 1
    have z2 := HFD.out.free 2
    have z3 := HFD.out.free 3
    have z4 := HFD.out.free 4
    obtain ⟨S, hS⟩ : ∃ S : World, (((((D.setCell ⟨hb, 0, none⟩ (.slice none 0 0)).setCell ⟨hb, 1, none⟩ (.int .u8 1)).setCell ⟨hb, 2, none⟩ (.int .i64 0)).setCell ⟨hb, 3, none⟩ (.int .i64 (f.blocks.length : Nat))).setCell ⟨hb, 4, none⟩ (.int .i64 0)) = S := ⟨_, rfl⟩
    have HSO : Hid (∀ j, j ≠ hb → S.heap[j]? = D.heap[j]?) := fun j hj => by
      rw [← hS, Below.heap_setCell _ _ _ _ hj, Below.heap_setCell _ _ _ _ hj, Below.heap_setCell _ _ _ _ hj, Below.heap_setCell _ _ _ _ hj, Below.heap_setCell _ _ _ _ hj]
    have HSB : Hid (Below w9.heap.size D S) := by show Below _ _ _; rw [← hS]; exact (((((Below.refl _ _).setCell hhb2 _).setCell hhb2 _).setCell hhb2 _).setCell hhb2 _).setCell hhb2 _
    have hSs := HSB.out.size
    have htk : (b0.code.take 0).length = 0 := by rw [List.length_take]; omega
    have HSR : Hid (BlkRow w9.heap.size 52 S (.slice (some ⟨hb, 0, none⟩) f.blocks.length mc2) (l2.set 0 ⟨⟨b0.code.take 0, 1, 0, f.blocks.length, 0⟩, none, 0⟩)) := by
      have := (HCP2.out.blks.toRow.keep (below_next HBZ2.out HDB.out)).set0 (q := ⟨⟨b0.code.take 0, 1, 0, f.blocks.length, 0⟩, none, 0⟩) HLL2.out HP0.out ⟨by show (0 : Int) ≤ 1; omega, by show (1 : Int) ≤ 255; omega, ⟨by show (-9223372036854775808 : Int) ≤ 0; omega, by show (0 : Int) ≤ 9223372036854775807; omega⟩, ⟨by show (-9223372036854775808 : Int) ≤ (f.blocks.length : Int); omega, by show (f.blocks.length : Int) ≤ 9223372036854775807; omega⟩, ⟨by show (-9223372036854775808 : Int) ≤ 0; omega, by show (0 : Int) ≤ 9223372036854775807; omega⟩⟩ ((HPC.out.1.take 0).below HDB.out) (HPC.out.2.1.mono (Nat.le_refl _) (by omega)) HPC.out.2.2
      rw [← hS]
      simp only [htk] at this
      exact this
    clear htk
    have HSG := Lib.hid ((HSO.out _ hne1).trans ((HDB.out.block _ hzz).trans HZ2O.out))
    have HSP := Lib.hid ((HSO.out _ hne3).trans ((HDR.out.block _ hZR).trans HRO.out))
    have HSC : Hid (CodeAt S ra (b0.code.drop 0)) := (HRC.out.below HDR.out).move (fun d hd _ => HSO.out _ (fun e => HRN.out d hd e.symm))
    have HSL : Hid (LiesIn w9.heap.size S.heap.size ra) := HRL.out.mono (Nat.le_refl _) (by omega)
    have g3S := cell_heap HSG.out 3
    have p0S := cell_heap HSP.out 0
    have p1S := cell_heap HSP.out 1
    have p2S := cell_heap HSP.out 2
    have p3S := cell_heap HSP.out 3
    have p4S := cell_heap HSP.out 4
    simp only [List.getElem?_toArray, List.getElem?_cons_zero, List.getElem?_cons_succ] at g3S p0S p1S p2S p3S p4S k0
    have HSWR : Hid (S.ownsRow w9.heap.size 52 5 (.slice (some ⟨hb, 0, none⟩) f.blocks.length mc2) f.blocks.length ((l2.set 0 ⟨⟨b0.code.take 0, 1, 0, f.blocks.length, 0⟩, none, 0⟩).flatMap BlkP.cells)) := by
      show World.ownsRow _ _ _ _ _ _ _
      have := HSR.out.row
      rwa [List.length_set, HLL2.out] at this
    have hS9 : w10.heap.size < S.heap.size := by omega
    go_wp2_with (at_builtin; refine wpList_append_row _ rfl (.tmp 109) (.tmp 111) 23 rfl w9.heap.size 52 i0 _ 5 56 Try.underlying23 hi hz0 hz1 hz2 rfl (by decide) (.slice (some ⟨hb, 0, none⟩) f.blocks.length mc2) f.blocks.length ((l2.set 0 ⟨⟨b0.code.take 0, 1, 0, f.blocks.length, 0⟩, none, 0⟩).flatMap BlkP.cells) rfl (HSWR.out.alloc _) ⟨S.heap.size, 0, none⟩ 1 1 [.slice ra dn rc, .int .u8 b0.kind, .int .i64 b0.x, .int .i64 b0.to, .int .i64 b0.els] rfl rfl (five_new S _ _ _ _ _ _) (by simp [Value.oneCell']) (by decide) (by unfold maxLen; omega) (by omega) (by simp; omega) ?_)
    intro gb2 cap2 w11 hown11 hgrow11 hplace11
    clear hS k0 k1 k2 k3 k4 z0 z1 z2 z3 z4 g3S p0S p1S p2S p3S p4S
    have hB11 : Below S.heap.size S (S.alloc (.cells #[.slice ra dn rc, .int .u8 b0.kind, .int .i64 b0.x, .int .i64 b0.to, .int .i64 b0.els] 52)) := (Below.refl _ _).alloc (Nat.le_refl _) _
    have HB11 := Lib.hid hB11
    have HG11 := Lib.hid hgrow11
    have HNW : Hid ([Value.slice ra dn rc, .int .u8 b0.kind, .int .i64 b0.x, .int .i64 b0.to, .int .i64 b0.els] = BlkP.cells ⟨{ b0 with code := b0.code.drop 0 }, ra, rc⟩) := by show _ = _; rw [HDN.out]; rfl
    have HO11 : Hid (w11.heap[w10.heap.size]? = some (.cells #[.string f.name, .int .i64 f.regs, .slice na2 f.arrays.length nc2, .slice (some ⟨hb, 0, none⟩) f.blocks.length mc2] 25)) := (hgrow11.block _ (by simp; omega) (fun e => hne1 (Option.some.inj e))).trans ((hB11.block _ hS9).trans HSG.out)
    have HP11 : Hid (BlkRow w9.heap.size 52 w11 (.slice (some ⟨gb2, 0, none⟩) (f.blocks.length + 1) cap2) (l2.set 0 ⟨⟨b0.code.take 0, 1, 0, f.blocks.length, 0⟩, none, 0⟩ ++ [⟨{ b0 with code := b0.code.drop 0 }, ra, rc⟩])) := by
      have hwf := HF.out.blocks.wf b0 (List.mem_of_getElem? HB0.out)
      have := HSR.out.pushAt (p := ⟨{ b0 with code := b0.code.drop 0 }, ra, rc⟩) hB11 ⟨hwf.k0, hwf.k1, hwf.x, hwf.to, hwf.els⟩ (HSC.out.below hB11) (HSL.out.mono (Nat.le_refl _) hB11.size) (fun d hd e => HRN.out d hd (Option.some.inj e)) hgrow11 (by rw [List.length_set, HLL2.out, ← HNW.out]; exact hown11) (by simpa using hplace11)
      rw [List.length_set, HLL2.out] at this
      exact this
    have HA11 : Hid (w11.ownsRow w9.heap.size 68 2 (.slice na2 f.arrays.length nc2) f.arrays.length (f.arrays.flatMap arrOne)) := by
      have h1 := HCP2.out.arrs
      refine ownsRow_move h1 (fun k hk hl => ?_)
      have hkb : k ≠ hb := fun e => by
        rcases HCP2.out.apart with e1 | e1
        · rw [hk] at e1; cases e1
        · exact e1 (by rw [hk, e]; rfl)
      exact (hgrow11.block k (by simp; omega) (fun e => hkb (Option.some.inj e))).trans ((hB11.block k (by omega)).trans ((HSO.out k hkb).trans ((HDB.out.block k (by omega)).trans (HBZ2.out.block k hl))))
    have HBW11 : Hid (Below Y.heap.size Y w11) := by
      show Below _ _ _
      have h1 : Below w9.heap.size D w11 := (HSB.out.trans (hB11.mono (by omega))).grown hgrow11 (by simp; omega) (fun j hj => by cases hj; exact hhb2)
      exact (below_next HBZ2Y.out HDB.out).trans (h1.mono h9s)
    have q9 : w11.cell? ⟨w10.heap.size, 3, none⟩ = some (.slice (some ⟨hb, 0, none⟩) f.blocks.length mc2) := cell_heap HO11.out 3
    have y9 : w11.frozen? ⟨w10.heap.size, 3, none⟩ = false := frozen_heap HO11.out 3
    clear hown11 hgrow11 hplace11 hB11
    obtain ⟨X2, hX2⟩ : ∃ X2 : World, w11.setCell ⟨w10.heap.size, 3, none⟩ (.slice (some ⟨gb2, 0, none⟩) (f.blocks.length + 1) cap2) = X2 := ⟨_, rfl⟩
    have HXG2 : Hid (X2.heap[w10.heap.size]? = some (.cells #[.string f.name, .int .i64 f.regs, .slice na2 f.arrays.length nc2, .slice (some ⟨gb2, 0, none⟩) (f.blocks.length + 1) cap2] 25)) := by
      show _ = _
      rw [← hX2, setCell_heap HO11.out]
      simp
    have HBX2 : Hid (Below Y.heap.size Y X2) := by show Below _ _ _; rw [← hX2]; exact HBW11.out.setCell (by show Y.heap.size ≤ w10.heap.size; omega) _
    have HFX2 : Hid (FnAt X2 { f with blocks := splitBlocks f.blocks b0 0 } na2 (some ⟨gb2, 0, none⟩)) := by
      show FnAt _ _ _ _
      have mvb : ∀ {e : TypeId} {size : Nat} {v : Value} {n : Nat} {xs : List Value}, 25 ≠ e → w11.ownsRow w9.heap.size e size v n xs → X2.ownsRow w9.heap.size e size v n xs := fun hT hr =>
        ownsRow_move hr (fun k hk _ => by rw [← hX2]; exact Below.heap_setCell _ _ _ _ (by rintro rfl; exact ownsRow_ne hr HO11.out hT hk))
      have hsm : ∀ p ∈ (l2.set 0 ⟨⟨b0.code.take 0, 1, 0, f.blocks.length, 0⟩, none, 0⟩ ++ [⟨{ b0 with code := b0.code.drop 0 }, ra, rc⟩] : List BlkP), ∀ d, p.a = some d → d.block ≠ w10.heap.size := by
        intro p hp d hd
        rcases List.mem_append.1 hp with hp | hp
        · rcases List.mem_or_eq_of_mem_set hp with hp | rfl
          · have := (HCP2.out.blks.toRow.lies p hp d hd).2
            omega
          · have := (HPC.out.2.1 d hd).2
            omega
        · obtain rfl : p = ⟨{ b0 with code := b0.code.drop 0 }, ra, rc⟩ := by simpa using hp
          have := (HRL.out d hd).2
          omega
      have h2 : BlkRow w9.heap.size 52 X2 (.slice (some ⟨gb2, 0, none⟩) (f.blocks.length + 1) cap2) (l2.set 0 ⟨⟨b0.code.take 0, 1, 0, f.blocks.length, 0⟩, none, 0⟩ ++ [⟨{ b0 with code := b0.code.drop 0 }, ra, rc⟩]) :=
        ⟨mvb (by decide) HP11.out.row, HP11.out.wf, fun p hp => (HP11.out.code p hp).move (fun d hd _ => by rw [← hX2]; exact Below.heap_setCell _ _ _ _ (hsm p hp d hd)), fun p hp => (HP11.out.lies p hp).mono (Nat.le_refl _) (by rw [← hX2]; simp), HP11.out.apart⟩
      obtain ⟨a1, c1, e1, k1⟩ := arrs_own (mvb (by decide) HA11.out) HF.out.arrays.fits HF.out.arrays.sizes
      have hl3 : (l2.set 0 ⟨⟨b0.code.take 0, 1, 0, f.blocks.length, 0⟩, none, 0⟩ ++ [⟨{ b0 with code := b0.code.drop 0 }, ra, rc⟩] : List BlkP).length = f.blocks.length + 1 := by rw [List.length_append, List.length_set, HLL2.out]; rfl
      obtain ⟨a2, c2, e2, k2, _⟩ := h2.blks (by omega)
      rw [hl3] at e2
      injection e1 with e1
      injection e2 with e2
      subst e1 e2
      have hbs : (l2.set 0 ⟨⟨b0.code.take 0, 1, 0, f.blocks.length, 0⟩, none, 0⟩ ++ [⟨{ b0 with code := b0.code.drop 0 }, ra, rc⟩] : List BlkP).map (fun q : BlkP => q.blk) = splitBlocks f.blocks b0 0 := by
        unfold splitBlocks
        rw [List.map_append, List.map_set, HCP2.out.eq]
        rfl
      rw [hbs] at k2
      exact ⟨k1, k2, HF.out.regs, HF.out.name⟩
    have hsl : (splitBlocks f.blocks b0 0).length = f.blocks.length + 1 := by simp [splitBlocks]
    have HBXW := Lib.hid (below_next HB5.out HBX2.out)
    obtain ⟨o2, ho2⟩ : ∃ o, runOf { f with blocks := splitBlocks f.blocks b0 0 } shared arrays objects inp 700 = o := ⟨_, rfl⟩
    have QR2 : Hid (Calls Try.prog 17 #[fnVal f.name f.regs na2 f.arrays.length nc2 (some ⟨gb2, 0, none⟩) (f.blocks.length + 1) cap2, .slice sa shared.length sc, .slice ara arrays.length arc, .slice oba objects.length obc, .slice ia inp.length ic, .int .i64 700] X2 fun e w' => ∃ v, e = .returned v ∧ OcAt w' v o2 ∧ Below X2.heap.size X2 w') := by
      have := run_any { f with blocks := splitBlocks f.blocks b0 0 } shared arrays objects inp 700 na2 (some ⟨gb2, 0, none⟩) sa ara oba ia nc2 cap2 sc arc obc ic X2 HFX2.out (HSW.out.below HBXW.out) (by omega) (HAW.out.below HBXW.out) (HOW.out.below HBXW.out) HC1.out HC2.out (HIW.out.below HBXW.out) (by decide)
      rw [ho2] at this
      show Calls _ _ _ _ _
      simpa [hsl] using this
    rw [ho2] at HRS0
    clear hsl ho2
    have e0 := cell_heap HXG2.out 0
    have e1 := cell_heap HXG2.out 1
    have e2 := cell_heap HXG2.out 2
    have e3 := cell_heap HXG2.out 3
    simp only [List.getElem?_toArray, List.getElem?_cons_zero, List.getElem?_cons_succ] at e0 e1 e2 e3
    go_wp2_with fail
    clear hX2 q9 y9
    refine QR2.out.mono ?_
    rintro e w12 ⟨v3, rfl, hoc3, hB12⟩
    have HBY12 := Lib.hid (below_next HBX2.out hB12)
    obtain ⟨aa3, oa3, ua3, ac3, oc3, uc3, rfl, hva3, hvo3, hvu3, _, _, _⟩ := hoc3
    have HV3 := Lib.hid (And.intro hva3 (And.intro hvo3 hvu3))
    clear hva3 hvo3 hvu3 hB12 e0 e1 e2 e3
    obtain ⟨U, hU⟩ : ∃ U : World, w12.alloc (.cells #[.slice aa3 o2.arrays.length ac3, .slice oa3 o2.objects.length oc3, .slice ua3 o2.out.length uc3, .int .i64 (o2.read : Nat), .int .i64 (o2.steps : Nat), .int .i64 o2.err] 41) = U := ⟨_, rfl⟩
    have HBU : Hid (Below w12.heap.size w12 U) := by show Below _ _ _; rw [← hU]; exact (Below.refl _ _).alloc (Nat.le_refl _) _
    have HUO : Hid (U.heap[w12.heap.size]? = some (.cells #[.slice aa3 o2.arrays.length ac3, .slice oa3 o2.objects.length oc3, .slice ua3 o2.out.length uc3, .int .i64 (o2.read : Nat), .int .i64 (o2.steps : Nat), .int .i64 o2.err] 41)) := by show _ = _; rw [← hU]; exact heap_new _ _
    have HBYU := Lib.hid (below_next HBY12.out HBU.out)
    have HUP := Lib.hid ((HBYU.out.block _ hYs).trans HYO.out)
    have HBWU := Lib.hid (below_next HB5.out HBYU.out)
    obtain ⟨a0, a1, a2, a3, a4, a5⟩ := oc_cells HUP.out (Below.refl _ _)
    by_cases h13 : o1.err = 13
    · rw [h13] at a5
      clear h13
      go_wp2_with fail
      go_ret
      exact ⟨rfl, HBW.out.trans (HBWU.out.mono (by omega))⟩
    · have h13' : (o1.err == 13) = false := by simpa using h13
      rcases HRS0.out with h | ⟨n, hn, he⟩
      · exact absurd h h13
      · subst he
        clear h13 HRS0
        obtain ⟨b0', b1', b2', b3', b4', b5'⟩ := oc_cells HUO.out (Below.refl _ _)
        try simp only at b0' b1' b2' b3' b4' b5' hU
        have hn' : ((o1.steps : Nat) : Int) ≤ ((n : Nat) : Int) := by omega
        have hva := HV1.out.1.below (below_next HBY.out HBYU.out)
        have hvo := HV1.out.2.1.below (below_next HBY.out HBYU.out)
        have hvu := HV1.out.2.2.below (below_next HBY.out HBYU.out)
        have hva' := HV3.out.1.below HBU.out
        have hvo' := HV3.out.2.1.below HBU.out
        have hvu' := HV3.out.2.2.below HBU.out
        try simp only at hva' hvo' hvu'
        have KA : Hid (∀ m, Calls Try.prog 20 #[.slice aa3 o1.arrays.length ac3, .slice aa1 o1.arrays.length ac1] (U.drewN m) fun e w' => e = .returned (.bool true) ∧ ∃ m', w' = U.drewN m') := fun m => (conts_eq o1.arrays aa3 aa1 ac3 ac1 _ (hva'.below (below_dN _ _)) (hva.below (below_dN _ _))).mono (fun e w'' ⟨h1, j, h2⟩ => ⟨h1, m + j, by rw [h2]; simp⟩)
        have KO : Hid (∀ m, Calls Try.prog 20 #[.slice oa3 o1.objects.length oc3, .slice oa1 o1.objects.length oc1] (U.drewN m) fun e w' => e = .returned (.bool true) ∧ ∃ m', w' = U.drewN m') := fun m => (conts_eq o1.objects oa3 oa1 oc3 oc1 _ (hvo'.below (below_dN _ _)) (hvo.below (below_dN _ _))).mono (fun e w'' ⟨h1, j, h2⟩ => ⟨h1, m + j, by rw [h2]; simp⟩)
        have KU : Hid (∀ m, Calls Try.prog 23 #[.slice ua3 o1.out.length uc3, .slice ua1 o1.out.length uc1] (U.drewN m) fun e w' => e = .returned (.bool true) ∧ ∃ m', w' = U.drewN m') := fun m => (outputs_eq o1.out ua3 ua1 uc3 uc1 _ (hvu'.below (below_dN _ _)) (hvu.below (below_dN _ _))).mono (fun e w'' ⟨h1, j, h2⟩ => ⟨h1, m + j, by rw [h2]; simp⟩)
        clear hva hvo hvu hva' hvo' hvu'
        go_wp2_with fail
        refine (KA.out 0).mono ?_
        rintro e w13 ⟨rfl, m1, hm1⟩
        clear hU a0 a1 a2 a3 a4 a5 b0' b1' b2' b3' b4' b5'
        have hd1 : Below U.heap.size U w13 := by rw [hm1]; exact below_dN _ _
        obtain ⟨a0, a1, a2, a3, a4, a5⟩ := oc_cells HUP.out hd1
        obtain ⟨b0', b1', b2', b3', b4', b5'⟩ := oc_cells HUO.out hd1
        try simp only at b0' b1' b2' b3' b4' b5'
        have KO1 : Hid (Calls Try.prog 20 #[.slice oa3 o1.objects.length oc3, .slice oa1 o1.objects.length oc1] w13 fun e w' => e = .returned (.bool true) ∧ ∃ m', w' = U.drewN m') := by
          show Calls _ _ _ _ _
          rw [hm1]
          exact KO.out m1
        clear hm1 hd1
        go_wp2_with fail
        refine KO1.out.mono ?_
        rintro e w14 ⟨rfl, m2, hm2⟩
        clear a0 a1 a2 a3 a4 a5 b0' b1' b2' b3' b4' b5'
        have hd2 : Below U.heap.size U w14 := by rw [hm2]; exact below_dN _ _
        obtain ⟨a0, a1, a2, a3, a4, a5⟩ := oc_cells HUP.out hd2
        obtain ⟨b0', b1', b2', b3', b4', b5'⟩ := oc_cells HUO.out hd2
        try simp only at b0' b1' b2' b3' b4' b5'
        have KU2 : Hid (Calls Try.prog 23 #[.slice ua3 o1.out.length uc3, .slice ua1 o1.out.length uc1] w14 fun e w' => e = .returned (.bool true) ∧ ∃ m', w' = U.drewN m') := by
          show Calls _ _ _ _ _
          rw [hm2]
          exact KU.out m2
        clear hm2 hd2
        go_wp2_with fail
        refine KU2.out.mono ?_
        rintro e w15 ⟨rfl, m3, hm3⟩
        have HD3 : Hid (Below U.heap.size U w15) := by show Below _ _ _; rw [hm3]; exact below_dN _ _
        clear hm3
        go_wp2_with fail
        go_ret
        exact ⟨rfl, HBW.out.trans ((below_next HBWU.out HD3.out).mono (by omega))⟩
  · clear HCASE
    go_wp2_with fail
    generalize hR : World.alloc Z2 _ = R
    have hdr : b0.code.drop pc = [] := List.drop_eq_nil_of_le (by omega)
    obtain ⟨dn, ra, rc, HDN, HRO, HRB, HRC, HRL, HRN⟩ := HREST.out R (some ⟨cb, 0, none⟩) 0 (by rw [← hR, show b0.code.length - pc = 0 from by omega]) (by rw [hdr]; exact CodeAt.none) HPC.out.2.1 HPC.out.2.2
    clear hdr
    clear hR
    have hRs := HRB.out.size
    have HFR := Lib.hid (HFI.out.below HRB.out)
    obtain ⟨k0, k1, k2, k3, k4⟩ := HFR.out.cells
    have HRG := Lib.hid ((HRB.out.block _ hzz).trans HZ2O.out)
    have g3R := cell_heap HRG.out 3
    simp only [List.getElem?_toArray, List.getElem?_cons_zero, List.getElem?_cons_succ] at g3R k0
    clear f0 f1 f2 f3 f4 g3
    go_still_tail 14, (by kernel_rfl)
    change wpList _ _ _ _ _ R.drew
    clear k0 k1 k2 k3 k4 g3R
    generalize hD : R.drew = D
    have HDB : Hid (Below Z2.heap.size Z2 D) := by show Below _ _ _; rw [← hD]; exact below_drawn HRB.out
    have HDR : Hid (Below R.heap.size R D) := by show Below _ _ _; rw [← hD]; exact (Below.refl _ _).drew
    clear hD
    have hDs := HDB.out.size
    have hDR := HDR.out.size
    have hZR := lt_heap HRO.out
    have HFD := Lib.hid (HFI.out.below HDB.out)
    obtain ⟨k0, k1, k2, k3, k4⟩ := HFD.out.cells
    have z0 := HFD.out.free 0
    have z1 := HFD.out.free 1
    have z2 := HFD.out.free 2
    have z3 := HFD.out.free 3
    have z4 := HFD.out.free 4
    obtain ⟨S, hS⟩ : ∃ S : World, (((((D.setCell ⟨hb, 0, none⟩ (.slice (some ⟨cb, 0, none⟩) pc pc)).setCell ⟨hb, 1, none⟩ (.int .u8 1)).setCell ⟨hb, 2, none⟩ (.int .i64 0)).setCell ⟨hb, 3, none⟩ (.int .i64 (f.blocks.length : Nat))).setCell ⟨hb, 4, none⟩ (.int .i64 0)) = S := ⟨_, rfl⟩
    have HSO : Hid (∀ j, j ≠ hb → S.heap[j]? = D.heap[j]?) := fun j hj => by
      rw [← hS, Below.heap_setCell _ _ _ _ hj, Below.heap_setCell _ _ _ _ hj, Below.heap_setCell _ _ _ _ hj, Below.heap_setCell _ _ _ _ hj, Below.heap_setCell _ _ _ _ hj]
    have HSB : Hid (Below w9.heap.size D S) := by show Below _ _ _; rw [← hS]; exact (((((Below.refl _ _).setCell hhb2 _).setCell hhb2 _).setCell hhb2 _).setCell hhb2 _).setCell hhb2 _
    have hSs := HSB.out.size
    have htk : (b0.code.take pc).length = pc := by rw [List.length_take]; omega
    have HSR : Hid (BlkRow w9.heap.size 52 S (.slice (some ⟨hb, 0, none⟩) f.blocks.length mc2) (l2.set 0 ⟨⟨b0.code.take pc, 1, 0, f.blocks.length, 0⟩, (some ⟨cb, 0, none⟩), pc⟩)) := by
      have := (HCP2.out.blks.toRow.keep (below_next HBZ2.out HDB.out)).set0 (q := ⟨⟨b0.code.take pc, 1, 0, f.blocks.length, 0⟩, (some ⟨cb, 0, none⟩), pc⟩) HLL2.out HP0.out ⟨by show (0 : Int) ≤ 1; omega, by show (1 : Int) ≤ 255; omega, ⟨by show (-9223372036854775808 : Int) ≤ 0; omega, by show (0 : Int) ≤ 9223372036854775807; omega⟩, ⟨by show (-9223372036854775808 : Int) ≤ (f.blocks.length : Int); omega, by show (f.blocks.length : Int) ≤ 9223372036854775807; omega⟩, ⟨by show (-9223372036854775808 : Int) ≤ 0; omega, by show (0 : Int) ≤ 9223372036854775807; omega⟩⟩ ((HPC.out.1.take pc).below HDB.out) (HPC.out.2.1.mono (Nat.le_refl _) (by omega)) HPC.out.2.2
      rw [← hS]
      simp only [htk] at this
      exact this
    clear htk
    have HSG := Lib.hid ((HSO.out _ hne1).trans ((HDB.out.block _ hzz).trans HZ2O.out))
    have HSP := Lib.hid ((HSO.out _ hne3).trans ((HDR.out.block _ hZR).trans HRO.out))
    have HSC : Hid (CodeAt S ra (b0.code.drop pc)) := (HRC.out.below HDR.out).move (fun d hd _ => HSO.out _ (fun e => HRN.out d hd e.symm))
    have HSL : Hid (LiesIn w9.heap.size S.heap.size ra) := HRL.out.mono (Nat.le_refl _) (by omega)
    have g3S := cell_heap HSG.out 3
    have p0S := cell_heap HSP.out 0
    have p1S := cell_heap HSP.out 1
    have p2S := cell_heap HSP.out 2
    have p3S := cell_heap HSP.out 3
    have p4S := cell_heap HSP.out 4
    simp only [List.getElem?_toArray, List.getElem?_cons_zero, List.getElem?_cons_succ] at g3S p0S p1S p2S p3S p4S k0
    have HSWR : Hid (S.ownsRow w9.heap.size 52 5 (.slice (some ⟨hb, 0, none⟩) f.blocks.length mc2) f.blocks.length ((l2.set 0 ⟨⟨b0.code.take pc, 1, 0, f.blocks.length, 0⟩, (some ⟨cb, 0, none⟩), pc⟩).flatMap BlkP.cells)) := by
      show World.ownsRow _ _ _ _ _ _ _
      have := HSR.out.row
      rwa [List.length_set, HLL2.out] at this
    have hS9 : w10.heap.size < S.heap.size := by omega
    go_wp2_with (at_builtin; refine wpList_append_row _ rfl (.tmp 109) (.tmp 111) 23 rfl w9.heap.size 52 i0 _ 5 56 Try.underlying23 hi hz0 hz1 hz2 rfl (by decide) (.slice (some ⟨hb, 0, none⟩) f.blocks.length mc2) f.blocks.length ((l2.set 0 ⟨⟨b0.code.take pc, 1, 0, f.blocks.length, 0⟩, (some ⟨cb, 0, none⟩), pc⟩).flatMap BlkP.cells) rfl (HSWR.out.alloc _) ⟨S.heap.size, 0, none⟩ 1 1 [.slice ra dn rc, .int .u8 b0.kind, .int .i64 b0.x, .int .i64 b0.to, .int .i64 b0.els] rfl rfl (five_new S _ _ _ _ _ _) (by simp [Value.oneCell']) (by decide) (by unfold maxLen; omega) (by omega) (by simp; omega) ?_)
    intro gb2 cap2 w11 hown11 hgrow11 hplace11
    clear hS k0 k1 k2 k3 k4 z0 z1 z2 z3 z4 g3S p0S p1S p2S p3S p4S
    have hB11 : Below S.heap.size S (S.alloc (.cells #[.slice ra dn rc, .int .u8 b0.kind, .int .i64 b0.x, .int .i64 b0.to, .int .i64 b0.els] 52)) := (Below.refl _ _).alloc (Nat.le_refl _) _
    have HB11 := Lib.hid hB11
    have HG11 := Lib.hid hgrow11
    have HNW : Hid ([Value.slice ra dn rc, .int .u8 b0.kind, .int .i64 b0.x, .int .i64 b0.to, .int .i64 b0.els] = BlkP.cells ⟨{ b0 with code := b0.code.drop pc }, ra, rc⟩) := by show _ = _; rw [HDN.out]; rfl
    have HO11 : Hid (w11.heap[w10.heap.size]? = some (.cells #[.string f.name, .int .i64 f.regs, .slice na2 f.arrays.length nc2, .slice (some ⟨hb, 0, none⟩) f.blocks.length mc2] 25)) := (hgrow11.block _ (by simp; omega) (fun e => hne1 (Option.some.inj e))).trans ((hB11.block _ hS9).trans HSG.out)
    have HP11 : Hid (BlkRow w9.heap.size 52 w11 (.slice (some ⟨gb2, 0, none⟩) (f.blocks.length + 1) cap2) (l2.set 0 ⟨⟨b0.code.take pc, 1, 0, f.blocks.length, 0⟩, (some ⟨cb, 0, none⟩), pc⟩ ++ [⟨{ b0 with code := b0.code.drop pc }, ra, rc⟩])) := by
      have hwf := HF.out.blocks.wf b0 (List.mem_of_getElem? HB0.out)
      have := HSR.out.pushAt (p := ⟨{ b0 with code := b0.code.drop pc }, ra, rc⟩) hB11 ⟨hwf.k0, hwf.k1, hwf.x, hwf.to, hwf.els⟩ (HSC.out.below hB11) (HSL.out.mono (Nat.le_refl _) hB11.size) (fun d hd e => HRN.out d hd (Option.some.inj e)) hgrow11 (by rw [List.length_set, HLL2.out, ← HNW.out]; exact hown11) (by simpa using hplace11)
      rw [List.length_set, HLL2.out] at this
      exact this
    have HA11 : Hid (w11.ownsRow w9.heap.size 68 2 (.slice na2 f.arrays.length nc2) f.arrays.length (f.arrays.flatMap arrOne)) := by
      have h1 := HCP2.out.arrs
      refine ownsRow_move h1 (fun k hk hl => ?_)
      have hkb : k ≠ hb := fun e => by
        rcases HCP2.out.apart with e1 | e1
        · rw [hk] at e1; cases e1
        · exact e1 (by rw [hk, e]; rfl)
      exact (hgrow11.block k (by simp; omega) (fun e => hkb (Option.some.inj e))).trans ((hB11.block k (by omega)).trans ((HSO.out k hkb).trans ((HDB.out.block k (by omega)).trans (HBZ2.out.block k hl))))
    have HBW11 : Hid (Below Y.heap.size Y w11) := by
      show Below _ _ _
      have h1 : Below w9.heap.size D w11 := (HSB.out.trans (hB11.mono (by omega))).grown hgrow11 (by simp; omega) (fun j hj => by cases hj; exact hhb2)
      exact (below_next HBZ2Y.out HDB.out).trans (h1.mono h9s)
    have q9 : w11.cell? ⟨w10.heap.size, 3, none⟩ = some (.slice (some ⟨hb, 0, none⟩) f.blocks.length mc2) := cell_heap HO11.out 3
    have y9 : w11.frozen? ⟨w10.heap.size, 3, none⟩ = false := frozen_heap HO11.out 3
    clear hown11 hgrow11 hplace11 hB11
    obtain ⟨X2, hX2⟩ : ∃ X2 : World, w11.setCell ⟨w10.heap.size, 3, none⟩ (.slice (some ⟨gb2, 0, none⟩) (f.blocks.length + 1) cap2) = X2 := ⟨_, rfl⟩
    have HXG2 : Hid (X2.heap[w10.heap.size]? = some (.cells #[.string f.name, .int .i64 f.regs, .slice na2 f.arrays.length nc2, .slice (some ⟨gb2, 0, none⟩) (f.blocks.length + 1) cap2] 25)) := by
      show _ = _
      rw [← hX2, setCell_heap HO11.out]
      simp
    have HBX2 : Hid (Below Y.heap.size Y X2) := by show Below _ _ _; rw [← hX2]; exact HBW11.out.setCell (by show Y.heap.size ≤ w10.heap.size; omega) _
    have HFX2 : Hid (FnAt X2 { f with blocks := splitBlocks f.blocks b0 pc } na2 (some ⟨gb2, 0, none⟩)) := by
      show FnAt _ _ _ _
      have mvb : ∀ {e : TypeId} {size : Nat} {v : Value} {n : Nat} {xs : List Value}, 25 ≠ e → w11.ownsRow w9.heap.size e size v n xs → X2.ownsRow w9.heap.size e size v n xs := fun hT hr =>
        ownsRow_move hr (fun k hk _ => by rw [← hX2]; exact Below.heap_setCell _ _ _ _ (by rintro rfl; exact ownsRow_ne hr HO11.out hT hk))
      have hsm : ∀ p ∈ (l2.set 0 ⟨⟨b0.code.take pc, 1, 0, f.blocks.length, 0⟩, (some ⟨cb, 0, none⟩), pc⟩ ++ [⟨{ b0 with code := b0.code.drop pc }, ra, rc⟩] : List BlkP), ∀ d, p.a = some d → d.block ≠ w10.heap.size := by
        intro p hp d hd
        rcases List.mem_append.1 hp with hp | hp
        · rcases List.mem_or_eq_of_mem_set hp with hp | rfl
          · have := (HCP2.out.blks.toRow.lies p hp d hd).2
            omega
          · have := (HPC.out.2.1 d hd).2
            omega
        · obtain rfl : p = ⟨{ b0 with code := b0.code.drop pc }, ra, rc⟩ := by simpa using hp
          have := (HRL.out d hd).2
          omega
      have h2 : BlkRow w9.heap.size 52 X2 (.slice (some ⟨gb2, 0, none⟩) (f.blocks.length + 1) cap2) (l2.set 0 ⟨⟨b0.code.take pc, 1, 0, f.blocks.length, 0⟩, (some ⟨cb, 0, none⟩), pc⟩ ++ [⟨{ b0 with code := b0.code.drop pc }, ra, rc⟩]) :=
        ⟨mvb (by decide) HP11.out.row, HP11.out.wf, fun p hp => (HP11.out.code p hp).move (fun d hd _ => by rw [← hX2]; exact Below.heap_setCell _ _ _ _ (hsm p hp d hd)), fun p hp => (HP11.out.lies p hp).mono (Nat.le_refl _) (by rw [← hX2]; simp), HP11.out.apart⟩
      obtain ⟨a1, c1, e1, k1⟩ := arrs_own (mvb (by decide) HA11.out) HF.out.arrays.fits HF.out.arrays.sizes
      have hl3 : (l2.set 0 ⟨⟨b0.code.take pc, 1, 0, f.blocks.length, 0⟩, (some ⟨cb, 0, none⟩), pc⟩ ++ [⟨{ b0 with code := b0.code.drop pc }, ra, rc⟩] : List BlkP).length = f.blocks.length + 1 := by rw [List.length_append, List.length_set, HLL2.out]; rfl
      obtain ⟨a2, c2, e2, k2, _⟩ := h2.blks (by omega)
      rw [hl3] at e2
      injection e1 with e1
      injection e2 with e2
      subst e1 e2
      have hbs : (l2.set 0 ⟨⟨b0.code.take pc, 1, 0, f.blocks.length, 0⟩, (some ⟨cb, 0, none⟩), pc⟩ ++ [⟨{ b0 with code := b0.code.drop pc }, ra, rc⟩] : List BlkP).map (fun q : BlkP => q.blk) = splitBlocks f.blocks b0 pc := by
        unfold splitBlocks
        rw [List.map_append, List.map_set, HCP2.out.eq]
        rfl
      rw [hbs] at k2
      exact ⟨k1, k2, HF.out.regs, HF.out.name⟩
    have hsl : (splitBlocks f.blocks b0 pc).length = f.blocks.length + 1 := by simp [splitBlocks]
    have HBXW := Lib.hid (below_next HB5.out HBX2.out)
    obtain ⟨o2, ho2⟩ : ∃ o, runOf { f with blocks := splitBlocks f.blocks b0 pc } shared arrays objects inp 700 = o := ⟨_, rfl⟩
    have QR2 : Hid (Calls Try.prog 17 #[fnVal f.name f.regs na2 f.arrays.length nc2 (some ⟨gb2, 0, none⟩) (f.blocks.length + 1) cap2, .slice sa shared.length sc, .slice ara arrays.length arc, .slice oba objects.length obc, .slice ia inp.length ic, .int .i64 700] X2 fun e w' => ∃ v, e = .returned v ∧ OcAt w' v o2 ∧ Below X2.heap.size X2 w') := by
      have := run_any { f with blocks := splitBlocks f.blocks b0 pc } shared arrays objects inp 700 na2 (some ⟨gb2, 0, none⟩) sa ara oba ia nc2 cap2 sc arc obc ic X2 HFX2.out (HSW.out.below HBXW.out) (by omega) (HAW.out.below HBXW.out) (HOW.out.below HBXW.out) HC1.out HC2.out (HIW.out.below HBXW.out) (by decide)
      rw [ho2] at this
      show Calls _ _ _ _ _
      simpa [hsl] using this
    rw [ho2] at HRS0
    clear hsl ho2
    have e0 := cell_heap HXG2.out 0
    have e1 := cell_heap HXG2.out 1
    have e2 := cell_heap HXG2.out 2
    have e3 := cell_heap HXG2.out 3
    simp only [List.getElem?_toArray, List.getElem?_cons_zero, List.getElem?_cons_succ] at e0 e1 e2 e3
    go_wp2_with fail
    clear hX2 q9 y9
    refine QR2.out.mono ?_
    rintro e w12 ⟨v3, rfl, hoc3, hB12⟩
    have HBY12 := Lib.hid (below_next HBX2.out hB12)
    obtain ⟨aa3, oa3, ua3, ac3, oc3, uc3, rfl, hva3, hvo3, hvu3, _, _, _⟩ := hoc3
    have HV3 := Lib.hid (And.intro hva3 (And.intro hvo3 hvu3))
    clear hva3 hvo3 hvu3 hB12 e0 e1 e2 e3
    obtain ⟨U, hU⟩ : ∃ U : World, w12.alloc (.cells #[.slice aa3 o2.arrays.length ac3, .slice oa3 o2.objects.length oc3, .slice ua3 o2.out.length uc3, .int .i64 (o2.read : Nat), .int .i64 (o2.steps : Nat), .int .i64 o2.err] 41) = U := ⟨_, rfl⟩
    have HBU : Hid (Below w12.heap.size w12 U) := by show Below _ _ _; rw [← hU]; exact (Below.refl _ _).alloc (Nat.le_refl _) _
    have HUO : Hid (U.heap[w12.heap.size]? = some (.cells #[.slice aa3 o2.arrays.length ac3, .slice oa3 o2.objects.length oc3, .slice ua3 o2.out.length uc3, .int .i64 (o2.read : Nat), .int .i64 (o2.steps : Nat), .int .i64 o2.err] 41)) := by show _ = _; rw [← hU]; exact heap_new _ _
    have HBYU := Lib.hid (below_next HBY12.out HBU.out)
    have HUP := Lib.hid ((HBYU.out.block _ hYs).trans HYO.out)
    have HBWU := Lib.hid (below_next HB5.out HBYU.out)
    obtain ⟨a0, a1, a2, a3, a4, a5⟩ := oc_cells HUP.out (Below.refl _ _)
    by_cases h13 : o1.err = 13
    · rw [h13] at a5
      clear h13
      go_wp2_with fail
      go_ret
      exact ⟨rfl, HBW.out.trans (HBWU.out.mono (by omega))⟩
    · have h13' : (o1.err == 13) = false := by simpa using h13
      rcases HRS0.out with h | ⟨n, hn, he⟩
      · exact absurd h h13
      · subst he
        clear h13 HRS0
        obtain ⟨b0', b1', b2', b3', b4', b5'⟩ := oc_cells HUO.out (Below.refl _ _)
        try simp only at b0' b1' b2' b3' b4' b5' hU
        have hn' : ((o1.steps : Nat) : Int) ≤ ((n : Nat) : Int) := by omega
        have hva := HV1.out.1.below (below_next HBY.out HBYU.out)
        have hvo := HV1.out.2.1.below (below_next HBY.out HBYU.out)
        have hvu := HV1.out.2.2.below (below_next HBY.out HBYU.out)
        have hva' := HV3.out.1.below HBU.out
        have hvo' := HV3.out.2.1.below HBU.out
        have hvu' := HV3.out.2.2.below HBU.out
        try simp only at hva' hvo' hvu'
        have KA : Hid (∀ m, Calls Try.prog 20 #[.slice aa3 o1.arrays.length ac3, .slice aa1 o1.arrays.length ac1] (U.drewN m) fun e w' => e = .returned (.bool true) ∧ ∃ m', w' = U.drewN m') := fun m => (conts_eq o1.arrays aa3 aa1 ac3 ac1 _ (hva'.below (below_dN _ _)) (hva.below (below_dN _ _))).mono (fun e w'' ⟨h1, j, h2⟩ => ⟨h1, m + j, by rw [h2]; simp⟩)
        have KO : Hid (∀ m, Calls Try.prog 20 #[.slice oa3 o1.objects.length oc3, .slice oa1 o1.objects.length oc1] (U.drewN m) fun e w' => e = .returned (.bool true) ∧ ∃ m', w' = U.drewN m') := fun m => (conts_eq o1.objects oa3 oa1 oc3 oc1 _ (hvo'.below (below_dN _ _)) (hvo.below (below_dN _ _))).mono (fun e w'' ⟨h1, j, h2⟩ => ⟨h1, m + j, by rw [h2]; simp⟩)
        have KU : Hid (∀ m, Calls Try.prog 23 #[.slice ua3 o1.out.length uc3, .slice ua1 o1.out.length uc1] (U.drewN m) fun e w' => e = .returned (.bool true) ∧ ∃ m', w' = U.drewN m') := fun m => (outputs_eq o1.out ua3 ua1 uc3 uc1 _ (hvu'.below (below_dN _ _)) (hvu.below (below_dN _ _))).mono (fun e w'' ⟨h1, j, h2⟩ => ⟨h1, m + j, by rw [h2]; simp⟩)
        clear hva hvo hvu hva' hvo' hvu'
        go_wp2_with fail
        refine (KA.out 0).mono ?_
        rintro e w13 ⟨rfl, m1, hm1⟩
        clear hU a0 a1 a2 a3 a4 a5 b0' b1' b2' b3' b4' b5'
        have hd1 : Below U.heap.size U w13 := by rw [hm1]; exact below_dN _ _
        obtain ⟨a0, a1, a2, a3, a4, a5⟩ := oc_cells HUP.out hd1
        obtain ⟨b0', b1', b2', b3', b4', b5'⟩ := oc_cells HUO.out hd1
        try simp only at b0' b1' b2' b3' b4' b5'
        have KO1 : Hid (Calls Try.prog 20 #[.slice oa3 o1.objects.length oc3, .slice oa1 o1.objects.length oc1] w13 fun e w' => e = .returned (.bool true) ∧ ∃ m', w' = U.drewN m') := by
          show Calls _ _ _ _ _
          rw [hm1]
          exact KO.out m1
        clear hm1 hd1
        go_wp2_with fail
        refine KO1.out.mono ?_
        rintro e w14 ⟨rfl, m2, hm2⟩
        clear a0 a1 a2 a3 a4 a5 b0' b1' b2' b3' b4' b5'
        have hd2 : Below U.heap.size U w14 := by rw [hm2]; exact below_dN _ _
        obtain ⟨a0, a1, a2, a3, a4, a5⟩ := oc_cells HUP.out hd2
        obtain ⟨b0', b1', b2', b3', b4', b5'⟩ := oc_cells HUO.out hd2
        try simp only at b0' b1' b2' b3' b4' b5'
        have KU2 : Hid (Calls Try.prog 23 #[.slice ua3 o1.out.length uc3, .slice ua1 o1.out.length uc1] w14 fun e w' => e = .returned (.bool true) ∧ ∃ m', w' = U.drewN m') := by
          show Calls _ _ _ _ _
          rw [hm2]
          exact KU.out m2
        clear hm2 hd2
        go_wp2_with fail
        refine KU2.out.mono ?_
        rintro e w15 ⟨rfl, m3, hm3⟩
        have HD3 : Hid (Below U.heap.size U w15) := by show Below _ _ _; rw [hm3]; exact below_dN _ _
        clear hm3
        go_wp2_with fail
        go_ret
        exact ⟨rfl, HBW.out.trans ((below_next HBWU.out HD3.out).mono (by omega))⟩
  · clear HCASE
    go_wp2_with fail
    generalize hR : World.alloc Z2 _ = R
    obtain ⟨dn, ra, rc, HDN, HRO, HRB, HRC, HRL, HRN⟩ := HREST.out R (some ⟨cb, kn * 6, none⟩) (pc - kn) (by rw [← hR]) (by have := HPC.out.1.drop kn; simpa using this) (fun d hd => by cases hd; exact HPC.out.2.1 ⟨cb, 0, none⟩ rfl) (fun d hd => by cases hd; exact HPC.out.2.2 ⟨cb, 0, none⟩ rfl)
    clear hR
    have hRs := HRB.out.size
    have HFR := Lib.hid (HFI.out.below HRB.out)
    obtain ⟨k0, k1, k2, k3, k4⟩ := HFR.out.cells
    have HRG := Lib.hid ((HRB.out.block _ hzz).trans HZ2O.out)
    have g3R := cell_heap HRG.out 3
    simp only [List.getElem?_toArray, List.getElem?_cons_zero, List.getElem?_cons_succ] at g3R k0
    clear f0 f1 f2 f3 f4 g3
    go_still_tail 14, (by kernel_rfl)
    change wpList _ _ _ _ _ R.drew
    clear k0 k1 k2 k3 k4 g3R
    generalize hD : R.drew = D
    have HDB : Hid (Below Z2.heap.size Z2 D) := by show Below _ _ _; rw [← hD]; exact below_drawn HRB.out
    have HDR : Hid (Below R.heap.size R D) := by show Below _ _ _; rw [← hD]; exact (Below.refl _ _).drew
    clear hD
    have hDs := HDB.out.size
    have hDR := HDR.out.size
    have hZR := lt_heap HRO.out
    have HFD := Lib.hid (HFI.out.below HDB.out)
    obtain ⟨k0, k1, k2, k3, k4⟩ := HFD.out.cells
    have z0 := HFD.out.free 0
    have z1 := HFD.out.free 1
    have z2 := HFD.out.free 2
    have z3 := HFD.out.free 3
    have z4 := HFD.out.free 4
    obtain ⟨S, hS⟩ : ∃ S : World, (((((D.setCell ⟨hb, 0, none⟩ (.slice (some ⟨cb, 0, none⟩) kn pc)).setCell ⟨hb, 1, none⟩ (.int .u8 1)).setCell ⟨hb, 2, none⟩ (.int .i64 0)).setCell ⟨hb, 3, none⟩ (.int .i64 (f.blocks.length : Nat))).setCell ⟨hb, 4, none⟩ (.int .i64 0)) = S := ⟨_, rfl⟩
    have HSO : Hid (∀ j, j ≠ hb → S.heap[j]? = D.heap[j]?) := fun j hj => by
      rw [← hS, Below.heap_setCell _ _ _ _ hj, Below.heap_setCell _ _ _ _ hj, Below.heap_setCell _ _ _ _ hj, Below.heap_setCell _ _ _ _ hj, Below.heap_setCell _ _ _ _ hj]
    have HSB : Hid (Below w9.heap.size D S) := by show Below _ _ _; rw [← hS]; exact (((((Below.refl _ _).setCell hhb2 _).setCell hhb2 _).setCell hhb2 _).setCell hhb2 _).setCell hhb2 _
    have hSs := HSB.out.size
    have htk : (b0.code.take kn).length = kn := by rw [List.length_take]; omega
    have HSR : Hid (BlkRow w9.heap.size 52 S (.slice (some ⟨hb, 0, none⟩) f.blocks.length mc2) (l2.set 0 ⟨⟨b0.code.take kn, 1, 0, f.blocks.length, 0⟩, (some ⟨cb, 0, none⟩), pc⟩)) := by
      have := (HCP2.out.blks.toRow.keep (below_next HBZ2.out HDB.out)).set0 (q := ⟨⟨b0.code.take kn, 1, 0, f.blocks.length, 0⟩, (some ⟨cb, 0, none⟩), pc⟩) HLL2.out HP0.out ⟨by show (0 : Int) ≤ 1; omega, by show (1 : Int) ≤ 255; omega, ⟨by show (-9223372036854775808 : Int) ≤ 0; omega, by show (0 : Int) ≤ 9223372036854775807; omega⟩, ⟨by show (-9223372036854775808 : Int) ≤ (f.blocks.length : Int); omega, by show (f.blocks.length : Int) ≤ 9223372036854775807; omega⟩, ⟨by show (-9223372036854775808 : Int) ≤ 0; omega, by show (0 : Int) ≤ 9223372036854775807; omega⟩⟩ ((HPC.out.1.take kn).below HDB.out) (HPC.out.2.1.mono (Nat.le_refl _) (by omega)) HPC.out.2.2
      rw [← hS]
      simp only [htk] at this
      exact this
    clear htk
    have HSG := Lib.hid ((HSO.out _ hne1).trans ((HDB.out.block _ hzz).trans HZ2O.out))
    have HSP := Lib.hid ((HSO.out _ hne3).trans ((HDR.out.block _ hZR).trans HRO.out))
    have HSC : Hid (CodeAt S ra (b0.code.drop kn)) := (HRC.out.below HDR.out).move (fun d hd _ => HSO.out _ (fun e => HRN.out d hd e.symm))
    have HSL : Hid (LiesIn w9.heap.size S.heap.size ra) := HRL.out.mono (Nat.le_refl _) (by omega)
    have g3S := cell_heap HSG.out 3
    have p0S := cell_heap HSP.out 0
    have p1S := cell_heap HSP.out 1
    have p2S := cell_heap HSP.out 2
    have p3S := cell_heap HSP.out 3
    have p4S := cell_heap HSP.out 4
    simp only [List.getElem?_toArray, List.getElem?_cons_zero, List.getElem?_cons_succ] at g3S p0S p1S p2S p3S p4S k0
    have HSWR : Hid (S.ownsRow w9.heap.size 52 5 (.slice (some ⟨hb, 0, none⟩) f.blocks.length mc2) f.blocks.length ((l2.set 0 ⟨⟨b0.code.take kn, 1, 0, f.blocks.length, 0⟩, (some ⟨cb, 0, none⟩), pc⟩).flatMap BlkP.cells)) := by
      show World.ownsRow _ _ _ _ _ _ _
      have := HSR.out.row
      rwa [List.length_set, HLL2.out] at this
    have hS9 : w10.heap.size < S.heap.size := by omega
    go_wp2_with (at_builtin; refine wpList_append_row _ rfl (.tmp 109) (.tmp 111) 23 rfl w9.heap.size 52 i0 _ 5 56 Try.underlying23 hi hz0 hz1 hz2 rfl (by decide) (.slice (some ⟨hb, 0, none⟩) f.blocks.length mc2) f.blocks.length ((l2.set 0 ⟨⟨b0.code.take kn, 1, 0, f.blocks.length, 0⟩, (some ⟨cb, 0, none⟩), pc⟩).flatMap BlkP.cells) rfl (HSWR.out.alloc _) ⟨S.heap.size, 0, none⟩ 1 1 [.slice ra dn rc, .int .u8 b0.kind, .int .i64 b0.x, .int .i64 b0.to, .int .i64 b0.els] rfl rfl (five_new S _ _ _ _ _ _) (by simp [Value.oneCell']) (by decide) (by unfold maxLen; omega) (by omega) (by simp; omega) ?_)
    intro gb2 cap2 w11 hown11 hgrow11 hplace11
    clear hS k0 k1 k2 k3 k4 z0 z1 z2 z3 z4 g3S p0S p1S p2S p3S p4S
    have hB11 : Below S.heap.size S (S.alloc (.cells #[.slice ra dn rc, .int .u8 b0.kind, .int .i64 b0.x, .int .i64 b0.to, .int .i64 b0.els] 52)) := (Below.refl _ _).alloc (Nat.le_refl _) _
    have HB11 := Lib.hid hB11
    have HG11 := Lib.hid hgrow11
    have HNW : Hid ([Value.slice ra dn rc, .int .u8 b0.kind, .int .i64 b0.x, .int .i64 b0.to, .int .i64 b0.els] = BlkP.cells ⟨{ b0 with code := b0.code.drop kn }, ra, rc⟩) := by show _ = _; rw [HDN.out]; rfl
    have HO11 : Hid (w11.heap[w10.heap.size]? = some (.cells #[.string f.name, .int .i64 f.regs, .slice na2 f.arrays.length nc2, .slice (some ⟨hb, 0, none⟩) f.blocks.length mc2] 25)) := (hgrow11.block _ (by simp; omega) (fun e => hne1 (Option.some.inj e))).trans ((hB11.block _ hS9).trans HSG.out)
    have HP11 : Hid (BlkRow w9.heap.size 52 w11 (.slice (some ⟨gb2, 0, none⟩) (f.blocks.length + 1) cap2) (l2.set 0 ⟨⟨b0.code.take kn, 1, 0, f.blocks.length, 0⟩, (some ⟨cb, 0, none⟩), pc⟩ ++ [⟨{ b0 with code := b0.code.drop kn }, ra, rc⟩])) := by
      have hwf := HF.out.blocks.wf b0 (List.mem_of_getElem? HB0.out)
      have := HSR.out.pushAt (p := ⟨{ b0 with code := b0.code.drop kn }, ra, rc⟩) hB11 ⟨hwf.k0, hwf.k1, hwf.x, hwf.to, hwf.els⟩ (HSC.out.below hB11) (HSL.out.mono (Nat.le_refl _) hB11.size) (fun d hd e => HRN.out d hd (Option.some.inj e)) hgrow11 (by rw [List.length_set, HLL2.out, ← HNW.out]; exact hown11) (by simpa using hplace11)
      rw [List.length_set, HLL2.out] at this
      exact this
    have HA11 : Hid (w11.ownsRow w9.heap.size 68 2 (.slice na2 f.arrays.length nc2) f.arrays.length (f.arrays.flatMap arrOne)) := by
      have h1 := HCP2.out.arrs
      refine ownsRow_move h1 (fun k hk hl => ?_)
      have hkb : k ≠ hb := fun e => by
        rcases HCP2.out.apart with e1 | e1
        · rw [hk] at e1; cases e1
        · exact e1 (by rw [hk, e]; rfl)
      exact (hgrow11.block k (by simp; omega) (fun e => hkb (Option.some.inj e))).trans ((hB11.block k (by omega)).trans ((HSO.out k hkb).trans ((HDB.out.block k (by omega)).trans (HBZ2.out.block k hl))))
    have HBW11 : Hid (Below Y.heap.size Y w11) := by
      show Below _ _ _
      have h1 : Below w9.heap.size D w11 := (HSB.out.trans (hB11.mono (by omega))).grown hgrow11 (by simp; omega) (fun j hj => by cases hj; exact hhb2)
      exact (below_next HBZ2Y.out HDB.out).trans (h1.mono h9s)
    have q9 : w11.cell? ⟨w10.heap.size, 3, none⟩ = some (.slice (some ⟨hb, 0, none⟩) f.blocks.length mc2) := cell_heap HO11.out 3
    have y9 : w11.frozen? ⟨w10.heap.size, 3, none⟩ = false := frozen_heap HO11.out 3
    clear hown11 hgrow11 hplace11 hB11
    obtain ⟨X2, hX2⟩ : ∃ X2 : World, w11.setCell ⟨w10.heap.size, 3, none⟩ (.slice (some ⟨gb2, 0, none⟩) (f.blocks.length + 1) cap2) = X2 := ⟨_, rfl⟩
    have HXG2 : Hid (X2.heap[w10.heap.size]? = some (.cells #[.string f.name, .int .i64 f.regs, .slice na2 f.arrays.length nc2, .slice (some ⟨gb2, 0, none⟩) (f.blocks.length + 1) cap2] 25)) := by
      show _ = _
      rw [← hX2, setCell_heap HO11.out]
      simp
    have HBX2 : Hid (Below Y.heap.size Y X2) := by show Below _ _ _; rw [← hX2]; exact HBW11.out.setCell (by show Y.heap.size ≤ w10.heap.size; omega) _
    have HFX2 : Hid (FnAt X2 { f with blocks := splitBlocks f.blocks b0 kn } na2 (some ⟨gb2, 0, none⟩)) := by
      show FnAt _ _ _ _
      have mvb : ∀ {e : TypeId} {size : Nat} {v : Value} {n : Nat} {xs : List Value}, 25 ≠ e → w11.ownsRow w9.heap.size e size v n xs → X2.ownsRow w9.heap.size e size v n xs := fun hT hr =>
        ownsRow_move hr (fun k hk _ => by rw [← hX2]; exact Below.heap_setCell _ _ _ _ (by rintro rfl; exact ownsRow_ne hr HO11.out hT hk))
      have hsm : ∀ p ∈ (l2.set 0 ⟨⟨b0.code.take kn, 1, 0, f.blocks.length, 0⟩, (some ⟨cb, 0, none⟩), pc⟩ ++ [⟨{ b0 with code := b0.code.drop kn }, ra, rc⟩] : List BlkP), ∀ d, p.a = some d → d.block ≠ w10.heap.size := by
        intro p hp d hd
        rcases List.mem_append.1 hp with hp | hp
        · rcases List.mem_or_eq_of_mem_set hp with hp | rfl
          · have := (HCP2.out.blks.toRow.lies p hp d hd).2
            omega
          · have := (HPC.out.2.1 d hd).2
            omega
        · obtain rfl : p = ⟨{ b0 with code := b0.code.drop kn }, ra, rc⟩ := by simpa using hp
          have := (HRL.out d hd).2
          omega
      have h2 : BlkRow w9.heap.size 52 X2 (.slice (some ⟨gb2, 0, none⟩) (f.blocks.length + 1) cap2) (l2.set 0 ⟨⟨b0.code.take kn, 1, 0, f.blocks.length, 0⟩, (some ⟨cb, 0, none⟩), pc⟩ ++ [⟨{ b0 with code := b0.code.drop kn }, ra, rc⟩]) :=
        ⟨mvb (by decide) HP11.out.row, HP11.out.wf, fun p hp => (HP11.out.code p hp).move (fun d hd _ => by rw [← hX2]; exact Below.heap_setCell _ _ _ _ (hsm p hp d hd)), fun p hp => (HP11.out.lies p hp).mono (Nat.le_refl _) (by rw [← hX2]; simp), HP11.out.apart⟩
      obtain ⟨a1, c1, e1, k1⟩ := arrs_own (mvb (by decide) HA11.out) HF.out.arrays.fits HF.out.arrays.sizes
      have hl3 : (l2.set 0 ⟨⟨b0.code.take kn, 1, 0, f.blocks.length, 0⟩, (some ⟨cb, 0, none⟩), pc⟩ ++ [⟨{ b0 with code := b0.code.drop kn }, ra, rc⟩] : List BlkP).length = f.blocks.length + 1 := by rw [List.length_append, List.length_set, HLL2.out]; rfl
      obtain ⟨a2, c2, e2, k2, _⟩ := h2.blks (by omega)
      rw [hl3] at e2
      injection e1 with e1
      injection e2 with e2
      subst e1 e2
      have hbs : (l2.set 0 ⟨⟨b0.code.take kn, 1, 0, f.blocks.length, 0⟩, (some ⟨cb, 0, none⟩), pc⟩ ++ [⟨{ b0 with code := b0.code.drop kn }, ra, rc⟩] : List BlkP).map (fun q : BlkP => q.blk) = splitBlocks f.blocks b0 kn := by
        unfold splitBlocks
        rw [List.map_append, List.map_set, HCP2.out.eq]
        rfl
      rw [hbs] at k2
      exact ⟨k1, k2, HF.out.regs, HF.out.name⟩
    have hsl : (splitBlocks f.blocks b0 kn).length = f.blocks.length + 1 := by simp [splitBlocks]
    have HBXW := Lib.hid (below_next HB5.out HBX2.out)
    obtain ⟨o2, ho2⟩ : ∃ o, runOf { f with blocks := splitBlocks f.blocks b0 kn } shared arrays objects inp 700 = o := ⟨_, rfl⟩
    have QR2 : Hid (Calls Try.prog 17 #[fnVal f.name f.regs na2 f.arrays.length nc2 (some ⟨gb2, 0, none⟩) (f.blocks.length + 1) cap2, .slice sa shared.length sc, .slice ara arrays.length arc, .slice oba objects.length obc, .slice ia inp.length ic, .int .i64 700] X2 fun e w' => ∃ v, e = .returned v ∧ OcAt w' v o2 ∧ Below X2.heap.size X2 w') := by
      have := run_any { f with blocks := splitBlocks f.blocks b0 kn } shared arrays objects inp 700 na2 (some ⟨gb2, 0, none⟩) sa ara oba ia nc2 cap2 sc arc obc ic X2 HFX2.out (HSW.out.below HBXW.out) (by omega) (HAW.out.below HBXW.out) (HOW.out.below HBXW.out) HC1.out HC2.out (HIW.out.below HBXW.out) (by decide)
      rw [ho2] at this
      show Calls _ _ _ _ _
      simpa [hsl] using this
    rw [ho2] at HRS0
    clear hsl ho2
    have e0 := cell_heap HXG2.out 0
    have e1 := cell_heap HXG2.out 1
    have e2 := cell_heap HXG2.out 2
    have e3 := cell_heap HXG2.out 3
    simp only [List.getElem?_toArray, List.getElem?_cons_zero, List.getElem?_cons_succ] at e0 e1 e2 e3
    go_wp2_with fail
    clear hX2 q9 y9
    refine QR2.out.mono ?_
    rintro e w12 ⟨v3, rfl, hoc3, hB12⟩
    have HBY12 := Lib.hid (below_next HBX2.out hB12)
    obtain ⟨aa3, oa3, ua3, ac3, oc3, uc3, rfl, hva3, hvo3, hvu3, _, _, _⟩ := hoc3
    have HV3 := Lib.hid (And.intro hva3 (And.intro hvo3 hvu3))
    clear hva3 hvo3 hvu3 hB12 e0 e1 e2 e3
    obtain ⟨U, hU⟩ : ∃ U : World, w12.alloc (.cells #[.slice aa3 o2.arrays.length ac3, .slice oa3 o2.objects.length oc3, .slice ua3 o2.out.length uc3, .int .i64 (o2.read : Nat), .int .i64 (o2.steps : Nat), .int .i64 o2.err] 41) = U := ⟨_, rfl⟩
    have HBU : Hid (Below w12.heap.size w12 U) := by show Below _ _ _; rw [← hU]; exact (Below.refl _ _).alloc (Nat.le_refl _) _
    have HUO : Hid (U.heap[w12.heap.size]? = some (.cells #[.slice aa3 o2.arrays.length ac3, .slice oa3 o2.objects.length oc3, .slice ua3 o2.out.length uc3, .int .i64 (o2.read : Nat), .int .i64 (o2.steps : Nat), .int .i64 o2.err] 41)) := by show _ = _; rw [← hU]; exact heap_new _ _
    have HBYU := Lib.hid (below_next HBY12.out HBU.out)
    have HUP := Lib.hid ((HBYU.out.block _ hYs).trans HYO.out)
    have HBWU := Lib.hid (below_next HB5.out HBYU.out)
    obtain ⟨a0, a1, a2, a3, a4, a5⟩ := oc_cells HUP.out (Below.refl _ _)
    by_cases h13 : o1.err = 13
    · rw [h13] at a5
      clear h13
      go_wp2_with fail
      go_ret
      exact ⟨rfl, HBW.out.trans (HBWU.out.mono (by omega))⟩
    · have h13' : (o1.err == 13) = false := by simpa using h13
      rcases HRS0.out with h | ⟨n, hn, he⟩
      · exact absurd h h13
      · subst he
        clear h13 HRS0
        obtain ⟨b0', b1', b2', b3', b4', b5'⟩ := oc_cells HUO.out (Below.refl _ _)
        try simp only at b0' b1' b2' b3' b4' b5' hU
        have hn' : ((o1.steps : Nat) : Int) ≤ ((n : Nat) : Int) := by omega
        have hva := HV1.out.1.below (below_next HBY.out HBYU.out)
        have hvo := HV1.out.2.1.below (below_next HBY.out HBYU.out)
        have hvu := HV1.out.2.2.below (below_next HBY.out HBYU.out)
        have hva' := HV3.out.1.below HBU.out
        have hvo' := HV3.out.2.1.below HBU.out
        have hvu' := HV3.out.2.2.below HBU.out
        try simp only at hva' hvo' hvu'
        have KA : Hid (∀ m, Calls Try.prog 20 #[.slice aa3 o1.arrays.length ac3, .slice aa1 o1.arrays.length ac1] (U.drewN m) fun e w' => e = .returned (.bool true) ∧ ∃ m', w' = U.drewN m') := fun m => (conts_eq o1.arrays aa3 aa1 ac3 ac1 _ (hva'.below (below_dN _ _)) (hva.below (below_dN _ _))).mono (fun e w'' ⟨h1, j, h2⟩ => ⟨h1, m + j, by rw [h2]; simp⟩)
        have KO : Hid (∀ m, Calls Try.prog 20 #[.slice oa3 o1.objects.length oc3, .slice oa1 o1.objects.length oc1] (U.drewN m) fun e w' => e = .returned (.bool true) ∧ ∃ m', w' = U.drewN m') := fun m => (conts_eq o1.objects oa3 oa1 oc3 oc1 _ (hvo'.below (below_dN _ _)) (hvo.below (below_dN _ _))).mono (fun e w'' ⟨h1, j, h2⟩ => ⟨h1, m + j, by rw [h2]; simp⟩)
        have KU : Hid (∀ m, Calls Try.prog 23 #[.slice ua3 o1.out.length uc3, .slice ua1 o1.out.length uc1] (U.drewN m) fun e w' => e = .returned (.bool true) ∧ ∃ m', w' = U.drewN m') := fun m => (outputs_eq o1.out ua3 ua1 uc3 uc1 _ (hvu'.below (below_dN _ _)) (hvu.below (below_dN _ _))).mono (fun e w'' ⟨h1, j, h2⟩ => ⟨h1, m + j, by rw [h2]; simp⟩)
        clear hva hvo hvu hva' hvo' hvu'
        go_wp2_with fail
        refine (KA.out 0).mono ?_
        rintro e w13 ⟨rfl, m1, hm1⟩
        clear hU a0 a1 a2 a3 a4 a5 b0' b1' b2' b3' b4' b5'
        have hd1 : Below U.heap.size U w13 := by rw [hm1]; exact below_dN _ _
        obtain ⟨a0, a1, a2, a3, a4, a5⟩ := oc_cells HUP.out hd1
        obtain ⟨b0', b1', b2', b3', b4', b5'⟩ := oc_cells HUO.out hd1
        try simp only at b0' b1' b2' b3' b4' b5'
        have KO1 : Hid (Calls Try.prog 20 #[.slice oa3 o1.objects.length oc3, .slice oa1 o1.objects.length oc1] w13 fun e w' => e = .returned (.bool true) ∧ ∃ m', w' = U.drewN m') := by
          show Calls _ _ _ _ _
          rw [hm1]
          exact KO.out m1
        clear hm1 hd1
        go_wp2_with fail
        refine KO1.out.mono ?_
        rintro e w14 ⟨rfl, m2, hm2⟩
        clear a0 a1 a2 a3 a4 a5 b0' b1' b2' b3' b4' b5'
        have hd2 : Below U.heap.size U w14 := by rw [hm2]; exact below_dN _ _
        obtain ⟨a0, a1, a2, a3, a4, a5⟩ := oc_cells HUP.out hd2
        obtain ⟨b0', b1', b2', b3', b4', b5'⟩ := oc_cells HUO.out hd2
        try simp only at b0' b1' b2' b3' b4' b5'
        have KU2 : Hid (Calls Try.prog 23 #[.slice ua3 o1.out.length uc3, .slice ua1 o1.out.length uc1] w14 fun e w' => e = .returned (.bool true) ∧ ∃ m', w' = U.drewN m') := by
          show Calls _ _ _ _ _
          rw [hm2]
          exact KU.out m2
        clear hm2 hd2
        go_wp2_with fail
        refine KU2.out.mono ?_
        rintro e w15 ⟨rfl, m3, hm3⟩
        have HD3 : Hid (Below U.heap.size U w15) := by show Below _ _ _; rw [hm3]; exact below_dN _ _
        clear hm3
        go_wp2_with fail
        go_ret
        exact ⟨rfl, HBW.out.trans ((below_next HBWU.out HD3.out).mono (by omega))⟩
end Go.Proofs.Ytjdfcpjlmfaaaaa
