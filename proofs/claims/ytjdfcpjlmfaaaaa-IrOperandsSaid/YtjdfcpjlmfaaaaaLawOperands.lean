/-
  IrOperands (package ontimelaw17): Uses, Defines, and Succ answer as the reference does.
-/
import Derived.Test.YtjdfcpjlmfaaaaaLawFns17
import Derived.Test.YtjdfcpjlmfaaaaaIrAwake
import Derived.Test.YtjdfcpjlmfaaaaaIrInts
import Derived.Test.YtjdfcpjlmfaaaaaIrUses
import Derived.Deep.RegionHeld3
namespace Go.Proofs.Ytjdfcpjlmfaaaaa
set_option linter.unusedVariables false
set_option linter.unusedSimpArgs false
open Go.RowKit
set_option maxRecDepth 100000
set_option maxHeartbeats 16000000

theorem irOperands_any (f : Fn) (shared : List (ByteArray × Int)) (aa ba sa : Option Addr) (ac bc sc : Nat) (w : World) (hf : FnAt w f aa ba) (hs : ArrsAt w sa shared) :
    Calls Try.prog 9 #[fnVal f.name f.regs aa f.arrays.length ac ba f.blocks.length bc, .slice sa shared.length sc] w fun e w' => e = .returned (.bool true) ∧ Below w.heap.size w w' := by
  have HF := Lib.hid hf
  have HS := Lib.hid hs
  have ls := hs.fits
  have lb := hf.blocks.fits
  clear hf hs
  obtain ⟨W, hW⟩ : ∃ W : World, w.alloc (.cells #[.string f.name, .int .i64 f.regs, .slice aa f.arrays.length ac, .slice ba f.blocks.length bc] 25) = W := ⟨_, rfl⟩
  have hWs : W.heap.size = w.heap.size + 1 := by rw [← hW]; simp
  have HBW : Hid (Below w.heap.size w W) := by show Below _ _ _; rw [← hW]; exact (Below.refl _ _).alloc (Nat.le_refl _) _
  have x0 : W.cell? ⟨w.heap.size, 0, none⟩ = some (.string f.name) := by rw [← hW]; simp
  have x1 : W.cell? ⟨w.heap.size, 1, none⟩ = some (.int .i64 f.regs) := by rw [← hW]; simp
  have x2 : W.cell? ⟨w.heap.size, 2, none⟩ = some (.slice aa f.arrays.length ac) := by rw [← hW]; simp
  have x3 : W.cell? ⟨w.heap.size, 3, none⟩ = some (.slice ba f.blocks.length bc) := by rw [← hW]; simp
  have HX := Lib.hid (And.intro x0 (And.intro x1 (And.intro x2 x3)))
  have HFW := Lib.hid (HF.out.below HBW.out)
  have HSW := Lib.hid (HS.out.below HBW.out)
  have hnW : w.heap.size < W.heap.size := by omega
  clear x0 x1 x2 x3
  go_enter Try.func9, Try.ntmps9
  go_wp2_with fail
  clear hW
  refine (awake_any W).mono ?_
  rintro e w1 ⟨rfl, hB1⟩
  have HB1 := Lib.hid hB1
  clear hB1
  obtain ⟨y0, y1, y2, y3, _⟩ := fb_cells hnW HX.out HB1.out
  go_wp2_with fail
  refine (small_any f aa ba ac bc w1 (HFW.out.below HB1.out)).mono ?_
  rintro e w2 ⟨rfl, hB2⟩
  have HB2 := Lib.hid (below_next HB1.out hB2)
  clear hB2 y0 y1 y2 y3
  cases hsm : smallOk f with
  | false =>
    simp only [bit01, cond_false]
    go_wp2_with fail
    go_ret
    exact ⟨rfl, HBW.out.trans (HB2.out.mono (by omega))⟩
  | true =>
  simp only [bit01, cond_true]
  by_cases hl : 12 < shared.length
  · have hl' : (12 : Int) < (shared.length : Int) := by omega
    go_wp2_with fail
    go_ret
    exact ⟨rfl, HBW.out.trans (HB2.out.mono (by omega))⟩
  have hl' : decide ((12 : Int) < (shared.length : Int)) = false := by simp; omega
  have HSM := Lib.hid (small_blocks hsm)
  have hl3 : shared.length ≤ 12 := by omega
  clear hsm hl
  obtain ⟨y0, y1, y2, y3, _⟩ := fb_cells hnW HX.out HB2.out
  go_wp2_with fail
  refine (plain_any f aa ba ac bc w2 (HFW.out.below HB2.out) (by have := HSM.out.1; omega) (fun b hb => by have := HSM.out.2 b hb; omega)).mono ?_
  rintro e w3 ⟨ba', bc', rfl, hfn, hB3⟩
  have HFN := Lib.hid hfn
  have HB3 := Lib.hid (below_next HB2.out hB3)
  clear hfn hB3 y0 y1 y2 y3
  go_wp2_with fail
  refine (refValid_is f shared aa ba' sa ac bc' sc w3 HFN.out (HSW.out.below HB3.out)).mono ?_
  rintro e w4 ⟨rfl, hB4⟩
  have HB4 := Lib.hid (below_next HB3.out hB4)
  clear hB4
  cases hv : fnOk f shared with
  | false =>
    clear hv
    go_wp2_with fail
    go_ret
    exact ⟨rfl, HBW.out.trans (HB4.out.mono (by omega))⟩
  | true =>
  clear hv hl'
  go_wp2_with fail
  go_loopw [5] (fun i wr => ∃ j : Nat, j ≤ f.blocks.length ∧ i = .int .i64 (j : Nat) ∧ Below W.heap.size W wr) (fun i _ => f.blocks.length - (intOf i).toNat)
  case atStart => exact ⟨0, Nat.zero_le _, rfl, HB4.out⟩
  case round =>
    obtain ⟨j, hj, rfl, hB⟩ := hrel
    have HB := Lib.hid hB
    have hBs := hB.size
    clear hB
    have hk0 : (0 : Int) ≤ (j : Int) := by omega
    obtain ⟨_, _, _, y3, _⟩ := fb_cells hnW HX.out HB.out
    by_cases hlt : j < f.blocks.length
    · obtain ⟨p, hp⟩ : ∃ p, f.blocks[j]? = some p := ⟨_, List.getElem?_eq_getElem hlt⟩
      rcases HFW.out.blocks.at_ with h0 | ⟨b, off, rfl, hc⟩
      · omega
      obtain ⟨ca, cc, hblk, hcode⟩ := hc j p hp
      have HCODE := Lib.hid hcode
      have hcl := hcode.fits
      obtain ⟨f0, f1, f2, f3, f4⟩ := hblk.below HB.out
      have hk1 : (j : Int) < (f.blocks.length : Int) := by omega
      have hb9 : b < wr.heap.size := World.block_lt_of_cell? _ _ f0
      clear hc hp hblk hcode
      obtain ⟨V, hV⟩ : ∃ V : World, wr.alloc (.cells #[.slice ca p.code.length cc, .int .u8 p.kind, .int .i64 p.x, .int .i64 p.to, .int .i64 p.els] 52) = V := ⟨_, rfl⟩
      have hVs : V.heap.size = wr.heap.size + 1 := by rw [← hV]; simp
      have HVB : Hid (Below W.heap.size W V) := by show Below _ _ _; rw [← hV]; exact HB.out.alloc hBs _
      have v0 : V.cell? ⟨wr.heap.size, 0, none⟩ = some (.slice ca p.code.length cc) := by rw [← hV]; simp
      have v1 : V.cell? ⟨wr.heap.size, 1, none⟩ = some (.int .u8 p.kind) := by rw [← hV]; simp
      have v2 : V.cell? ⟨wr.heap.size, 2, none⟩ = some (.int .i64 p.x) := by rw [← hV]; simp
      have v3 : V.cell? ⟨wr.heap.size, 3, none⟩ = some (.int .i64 p.to) := by rw [← hV]; simp
      have v4 : V.cell? ⟨wr.heap.size, 4, none⟩ = some (.int .i64 p.els) := by rw [← hV]; simp
      have HV := Lib.hid (And.intro v0 (And.intro v1 (And.intro v2 (And.intro v3 v4))))
      have hnV : wr.heap.size < V.heap.size := by omega
      have hb0 : Below V.heap.size V V := Below.refl _ _
      have QS : Hid (∀ W', Calls Try.prog 29 #[.agg #[.slice ca p.code.length cc, .int .u8 p.kind, .int .i64 p.x, .int .i64 p.to, .int .i64 p.els]] W' (IntsNew p.succ W')) := fun W' => succ_any p ca cc W'
      have QR : Hid (∀ W', Calls Try.prog 30 #[.agg #[.slice none 0 0, .int .u8 p.kind, .int .i64 0, .int .i64 p.to, .int .i64 p.els]] W' (IntsNew p.succ W')) := fun W' => refSucc_any ⟨[], p.kind, 0, p.to, p.els⟩ none 0 W'
      have hsl := succ_len p
      obtain ⟨sc', hsc'⟩ : ∃ l, p.succ = l := ⟨_, rfl⟩
      rw [hsc'] at QS QR hsl
      clear hsc'
      go_wp2_with fail
      clear hV f0 f1 f2 f3 f4 y3
      go_region_held3 (fun w' => w'.cell? ⟨wr.heap.size, 0, none⟩ = some (.slice ca p.code.length cc) ∧ w'.cell? ⟨wr.heap.size, 1, none⟩ = some (.int .u8 p.kind) ∧ w'.cell? ⟨wr.heap.size, 2, none⟩ = some (.int .i64 p.x) ∧ w'.cell? ⟨wr.heap.size, 3, none⟩ = some (.int .i64 p.to) ∧ w'.cell? ⟨wr.heap.size, 4, none⟩ = some (.int .i64 p.els) ∧ Below V.heap.size V w')
        (first | (go_split_ands; exact blk_cells hnV HV.out (below_next (by assumption) hB9)) | (go_split_ands; exact blk_cells hnV HV.out (below_drawn (by assumption))) | (go_split_ands; exact blk_cells hnV HV.out (by assumption)))
        (first
          | (go_at_call 29; go_split_ands; refine (QS.out _).mono ?_; rintro e w9 ⟨va, rfl, hva, hB9⟩)
          | (go_at_call 30; go_split_ands; refine (QR.out _).mono ?_; rintro e w9 ⟨vb, rfl, hvb, hB9⟩)
          | (go_at_call 28; go_split_ands; refine (ints_eq sc' va vb _ (by first | exact hva | exact hva.below hB9) (by first | exact hvb | exact hvb.below hB9) (by omega)).mono ?_; rintro e w9 ⟨rfl, hB9⟩; replace hB9 := below_drew hB9))
      all_goals
        go_split_ands
        rename Below V.heap.size V _ => hBQ
        have HBQ := Lib.hid hBQ
        go_wp2_with fail
        obtain ⟨wo, rfl⟩ : ∃ wo : World, wo = wr := ⟨_, rfl⟩
        go_loopw [7] (fun i wi => ∃ k : Nat, k ≤ p.code.length ∧ i = .int .i64 (k : Nat) ∧ Below V.heap.size V wi) (fun i _ => p.code.length - (intOf i).toNat)
        case atStart => exact ⟨0, Nat.zero_le _, rfl, HBQ.out⟩
        case round =>
          obtain ⟨k, hk, rfl, hB4⟩ := hrel
          have hB4s := hB4.size
          have HB4 := Lib.hid hB4
          have hk2 : (0 : Int) ≤ (k : Int) := by omega
          have HBA := Lib.hid (HVB.out.trans (HB4.out.mono (by omega)))
          obtain ⟨u0, _, _, _, _, _⟩ := blk_cells hnV HV.out HB4.out
          by_cases hkl : k < p.code.length
          · obtain ⟨q, hq⟩ : ∃ q, p.code[k]? = some q := ⟨_, List.getElem?_eq_getElem hkl⟩
            obtain ⟨op0, op1, _, _, _, _, _⟩ := HCODE.out.wf q (List.mem_of_getElem? hq)
            rcases HCODE.out.at_ with h0 | ⟨cb, co, rfl, hcc⟩
            · omega
            have HI := Lib.hid (hcc k q hq)
            have hk3 : (k : Int) < (p.code.length : Int) := by omega
            have QD : Hid (∀ W', Calls Try.prog 26 #[.agg #[.int .u8 q.op, .int .i64 q.dst, .int .i64 q.x, .int .i64 q.y, .int .i64 q.imm, .string q.sym]] W' (DefOk q W')) := fun W' => defines_any q W'
            have QE : Hid (∀ W', Calls Try.prog 31 #[.agg #[.int .u8 q.op, .int .i64 q.dst, .int .i64 q.x, .int .i64 q.y, .int .i64 q.imm, .string q.sym]] W' (DefOk q W')) := fun W' => refDefines_any q W' op0 op1
            have QU : Hid (∀ W', Calls Try.prog 25 #[.agg #[.int .u8 q.op, .int .i64 q.dst, .int .i64 q.x, .int .i64 q.y, .int .i64 q.imm, .string q.sym]] W' (IntsNew q.uses W')) := fun W' => uses_any q W'
            have QV : Hid (∀ W', Calls Try.prog 32 #[.agg #[.int .u8 q.op, .int .i64 q.dst, .int .i64 q.x, .int .i64 q.y, .int .i64 q.imm, .string q.sym]] W' (IntsNew q.uses W')) := fun W' => refUses_any q W' op0 op1
            have hul := uses_len q
            unfold DefOk at QD QE
            obtain ⟨ul, hu⟩ : ∃ l, q.uses = l := ⟨_, rfl⟩
            rw [hu] at QU QV hul
            obtain ⟨d, hd⟩ : ∃ d, q.defines.getD 0 = d := ⟨_, rfl⟩
            obtain ⟨o, ho⟩ : ∃ o, q.defines.isSome = o := ⟨_, rfl⟩
            rw [hd, ho] at QD QE
            obtain ⟨c0, c1, c2, c3, c4, c5⟩ := HI.out.below HBA.out
            clear hcc hq hu hd ho op0 op1 hB4
            go_wp2_with fail
            refine (QD.out _).mono ?_
            rintro e w5 ⟨rfl, hB5⟩
            have HB5 := Lib.hid (below_next HB4.out hB5)
            clear hB5 u0 c0 c1 c2 c3 c4 c5
            have HBA5 := Lib.hid (HVB.out.trans (HB5.out.mono (by omega)))
            obtain ⟨u0, _, _, _, _, _⟩ := blk_cells hnV HV.out HB5.out
            obtain ⟨c0, c1, c2, c3, c4, c5⟩ := HI.out.below HBA5.out
            go_wp2_with fail
            refine (QE.out _).mono ?_
            rintro e w6 ⟨rfl, hB6⟩
            have HB6 := Lib.hid (below_next HB5.out hB6)
            clear hB6 u0 c0 c1 c2 c3 c4 c5
            have HBA6 := Lib.hid (HVB.out.trans (HB6.out.mono (by omega)))
            have HKC : Hid (∀ W', Below V.heap.size V W' → W'.cell? ⟨wo.heap.size, 0, none⟩ = some (.slice (some ⟨cb, co, none⟩) p.code.length cc) ∧ W'.cell? ⟨cb, co + k * 6, none⟩ = some (.int .u8 q.op) ∧ W'.cell? ⟨cb, co + k * 6 + 1, none⟩ = some (.int .i64 q.dst) ∧ W'.cell? ⟨cb, co + k * 6 + 2, none⟩ = some (.int .i64 q.x) ∧ W'.cell? ⟨cb, co + k * 6 + 3, none⟩ = some (.int .i64 q.y) ∧ W'.cell? ⟨cb, co + k * 6 + 4, none⟩ = some (.int .i64 q.imm) ∧ W'.cell? ⟨cb, co + k * 6 + 5, none⟩ = some (.string q.sym) ∧ Below V.heap.size V W') := fun W' h => by
              obtain ⟨u0, _, _, _, _, _⟩ := blk_cells hnV HV.out h
              obtain ⟨c0, c1, c2, c3, c4, c5⟩ := HI.out.below (HVB.out.trans (h.mono (by omega)))
              exact ⟨u0, c0, c1, c2, c3, c4, c5, h⟩
            obtain ⟨u0, c0, c1, c2, c3, c4, c5, hB6'⟩ := HKC.out _ HB6.out
            go_wp2_with fail
            go_region_held3 (fun w' => w'.cell? ⟨wo.heap.size, 0, none⟩ = some (.slice (some ⟨cb, co, none⟩) p.code.length cc) ∧ w'.cell? ⟨cb, co + k * 6, none⟩ = some (.int .u8 q.op) ∧ w'.cell? ⟨cb, co + k * 6 + 1, none⟩ = some (.int .i64 q.dst) ∧ w'.cell? ⟨cb, co + k * 6 + 2, none⟩ = some (.int .i64 q.x) ∧ w'.cell? ⟨cb, co + k * 6 + 3, none⟩ = some (.int .i64 q.y) ∧ w'.cell? ⟨cb, co + k * 6 + 4, none⟩ = some (.int .i64 q.imm) ∧ w'.cell? ⟨cb, co + k * 6 + 5, none⟩ = some (.string q.sym) ∧ Below V.heap.size V w')
              (first | (go_split_ands; exact HKC.out _ (below_next (by assumption) hB9)) | (go_split_ands; exact HKC.out _ (below_drawn (by assumption))) | (go_split_ands; exact HKC.out _ (by assumption)))
              (first
                | (go_at_call 25; go_split_ands; refine (QU.out _).mono ?_; rintro e w9 ⟨va, rfl, hva, hB9⟩)
                | (go_at_call 32; go_split_ands; refine (QV.out _).mono ?_; rintro e w9 ⟨vb, rfl, hvb, hB9⟩)
                | (go_at_call 28; go_split_ands; refine (ints_eq ul va vb _ (by first | exact hva | exact hva.below hB9) (by first | exact hvb | exact hvb.below hB9) (by omega)).mono ?_; rintro e w9 ⟨rfl, hB9⟩; replace hB9 := below_drew hB9))
            all_goals
              go_split_ands
              rename Below V.heap.size V _ => hBZ
              have HBZ := Lib.hid hBZ
              go_wp2_with fail
              go_roundw
              case rel => exact ⟨k + 1, by omega, by go_num, HBZ.out⟩
              case measure => simp [intOf]; omega
          · obtain rfl : k = p.code.length := by omega
            go_wp2_with fail
            go_roundw
            case rel => exact ⟨j + 1, by omega, by go_num, HBA.out⟩
            case measure => simp [intOf]; omega
    · obtain rfl : j = f.blocks.length := by omega
      go_wp2_with fail
      go_ret
      exact ⟨rfl, HBW.out.trans (HB.out.mono (by omega))⟩
end Go.Proofs.Ytjdfcpjlmfaaaaa
