/-
  Contracts: small, contents, equal (package ontimelaw17), Contents, Outputs (package ontimeref17), the last three where both sides are alike.
-/
import Derived.Test.YtjdfcpjlmfaaaaaDrews
import Derived.Test.YtjdfcpjlmfaaaaaIrFinish
import Derived.Test.YtjdfcpjlmfaaaaaIrEnd
import Derived.Deep.QuietTactic
import Derived.BigQuiet
import Derived.WalkLawsBesides
import Derived.Laws.StructEq
namespace Go.Proofs.Ytjdfcpjlmfaaaaa
set_option linter.unusedVariables false
set_option linter.unusedSimpArgs false
open Go.RowKit
set_option maxRecDepth 100000
set_option maxHeartbeats 8000000

/-- whether a function is within the bounds of the statements -/
def smallOk (f : Fn) : Bool := decide (f.blocks.length ≤ 30) && decide (f.arrays.length ≤ 12) && decide (f.regs ≤ 200) && f.blocks.all (fun b => decide (b.code.length ≤ 40))
def contsOk (l : List (List Int)) : Bool := decide (l.length ≤ 12) && l.all (fun r => decide (r.length ≤ 40))
def bit01 (b : Bool) : Int := bif b then 1 else 0

theorem small_any (f : Fn) (aa ba : Option Addr) (ac bc : Nat) (w : World) (hf : FnAt w f aa ba) :
    Calls Try.prog 11 #[fnVal f.name f.regs aa f.arrays.length ac ba f.blocks.length bc] w fun e w' => e = .returned (.int .i64 (bit01 (smallOk f))) ∧ Below w.heap.size w w' := by
  have HF := Lib.hid hf
  have la := hf.arrays.fits
  have lb := hf.blocks.fits
  clear hf
  by_cases h1 : 30 < f.blocks.length
  · have hq : smallOk f = false := by simp [smallOk]; omega
    rw [hq]
    have h1' : (30 : Int) < (f.blocks.length : Int) := by omega
    go_enter Try.func11, Try.ntmps11
    go_wp2_with fail
    go_ret
    exact ⟨rfl, (Below.refl _ _).alloc (Nat.le_refl _) _⟩
  have h1' : decide ((30 : Int) < (f.blocks.length : Int)) = false := by simp; omega
  by_cases h2 : 12 < f.arrays.length
  · have hq : smallOk f = false := by simp [smallOk]; omega
    rw [hq]
    have h2' : (12 : Int) < (f.arrays.length : Int) := by omega
    go_enter Try.func11, Try.ntmps11
    go_wp2_with fail
    go_ret
    exact ⟨rfl, (Below.refl _ _).alloc (Nat.le_refl _) _⟩
  have h2' : decide ((12 : Int) < (f.arrays.length : Int)) = false := by simp; omega
  by_cases h3 : 200 < f.regs
  · have hq : smallOk f = false := by simp [smallOk]; omega
    rw [hq]
    go_enter Try.func11, Try.ntmps11
    go_wp2_with fail
    go_ret
    exact ⟨rfl, (Below.refl _ _).alloc (Nat.le_refl _) _⟩
  have h3' : decide (200 < f.regs) = false := by simp; omega
  have HQ : Hid (smallOk f = f.blocks.all (fun b => decide (b.code.length ≤ 40))) := by
    show _ = _
    unfold smallOk
    rw [decide_eq_true (show f.blocks.length ≤ 30 by omega), decide_eq_true (show f.arrays.length ≤ 12 by omega), decide_eq_true (show f.regs ≤ 200 by omega)]
    rfl
  clear h2 h3
  obtain ⟨W, hW⟩ : ∃ W : World, (w.alloc (.cells #[.string f.name, .int .i64 f.regs, .slice aa f.arrays.length ac, .slice ba f.blocks.length bc] 25)) = W := ⟨_, rfl⟩
  have HBW : Hid (Below w.heap.size w W) := by show Below _ _ _; rw [← hW]; exact (Below.refl _ _).alloc (Nat.le_refl _) _
  have x1 : W.cell? ⟨w.heap.size, 1, none⟩ = some (.int .i64 f.regs) := by rw [← hW]; simp
  have x2 : W.cell? ⟨w.heap.size, 2, none⟩ = some (.slice aa f.arrays.length ac) := by rw [← hW]; simp
  have x3 : W.cell? ⟨w.heap.size, 3, none⟩ = some (.slice ba f.blocks.length bc) := by rw [← hW]; simp
  go_enter Try.func11, Try.ntmps11
  go_wp2_with fail
  clear hW h1' h2' h3'
  go_loopw [3] (fun i wr => ∃ j : Nat, j ≤ f.blocks.length ∧ i = .int .i64 j ∧ (f.blocks.take j).all (fun b => decide (b.code.length ≤ 40)) = true ∧ wr = W) (fun i _ => f.blocks.length - (intOf i).toNat)
  case atStart => exact ⟨0, Nat.zero_le _, rfl, rfl, rfl⟩
  case round =>
    obtain ⟨j, hj, rfl, hall, rfl⟩ := hrel
    have HALL := Lib.hid hall
    clear hall
    have hk0 : (0 : Int) ≤ (j : Int) := by omega
    by_cases hlt : j < f.blocks.length
    · obtain ⟨p, hp⟩ : ∃ p, f.blocks[j]? = some p := ⟨_, List.getElem?_eq_getElem hlt⟩
      rcases HF.out.blocks.at_ with h0 | ⟨b, off, rfl, hc⟩
      · omega
      obtain ⟨ca, cc, hblk, hcode⟩ := hc j p hp
      have f0 := cell_below HBW.out hblk.c0
      have hcl := hcode.fits
      have HP := Lib.hid hp
      have hk1 : (j : Int) < (f.blocks.length : Int) := by omega
      clear hc hp hblk hcode
      by_cases hs : 40 < p.code.length
      · have hs' : (40 : Int) < (p.code.length : Int) := by omega
        have HN : Hid (smallOk f = false) := by show _ = _; rw [HQ.out]; exact all_fail HP.out (by simp; omega)
        go_wp2_with fail
        go_ret
        exact ⟨by rw [HN.out]; rfl, HBW.out⟩
      · have hs' : decide ((40 : Int) < (p.code.length : Int)) = false := by simp; omega
        have HN : Hid ((f.blocks.take (j + 1)).all (fun b => decide (b.code.length ≤ 40)) = true) := all_take HP.out HALL.out (by simp; omega)
        clear hs
        go_wp2_with fail
        go_roundw
        case rel => exact ⟨j + 1, by omega, by go_num, HN.out, by trivial⟩
        case measure => simp [intOf]; omega
    · obtain rfl : j = f.blocks.length := by omega
      have HN : Hid (smallOk f = true) := by show _ = _; rw [HQ.out, ← HALL.out, List.take_length]
      go_wp2_with fail
      go_ret
      exact ⟨by rw [HN.out]; rfl, HBW.out⟩
theorem conts_any (l : List (List Int)) (a : Option Addr) (c : Nat) (w : World) (hl : ContAt w a l) :
    Calls Try.prog 15 #[.slice a l.length c] w fun e w' => e = .returned (.int .i64 (bit01 (contsOk l))) ∧ w = w' := by
  have HL := Lib.hid hl
  have hlf := hl.fits
  clear hl
  by_cases h1 : 12 < l.length
  · have hq : contsOk l = false := by simp [contsOk]; omega
    rw [hq]
    have h1' : (12 : Int) < (l.length : Int) := by omega
    go_enter Try.func15, Try.ntmps15
    go_wp2_with fail
    go_ret
    exact ⟨rfl, rfl⟩
  have h1' : decide ((12 : Int) < (l.length : Int)) = false := by simp; omega
  have HQ : Hid (contsOk l = l.all (fun r => decide (r.length ≤ 40))) := by
    show _ = _
    unfold contsOk
    rw [decide_eq_true (show l.length ≤ 12 by omega)]
    rfl
  clear h1
  go_enter Try.func15, Try.ntmps15
  go_wp2_with fail
  clear h1'
  go_loopw [3] (fun i wr => ∃ j : Nat, j ≤ l.length ∧ i = .int .i64 j ∧ (l.take j).all (fun r => decide (r.length ≤ 40)) = true ∧ wr = w) (fun i _ => l.length - (intOf i).toNat)
  case atStart => exact ⟨0, Nat.zero_le _, rfl, rfl, rfl⟩
  case round =>
    obtain ⟨j, hj, rfl, hall, rfl⟩ := hrel
    have HALL := Lib.hid hall
    clear hall
    have hk0 : (0 : Int) ≤ (j : Int) := by omega
    by_cases hlt : j < l.length
    · obtain ⟨r, hr⟩ : ∃ r, l[j]? = some r := ⟨_, List.getElem?_eq_getElem hlt⟩
      rcases HL.out.at_ with h0 | ⟨b, off, rfl, hc⟩
      · omega
      obtain ⟨ra, rc, f0, _, hra⟩ := hc j r hr
      have hrf := hra.fits
      have HP := Lib.hid hr
      have hk1 : (j : Int) < (l.length : Int) := by omega
      clear hc hr hra
      by_cases hs : 40 < r.length
      · have hs' : (40 : Int) < (r.length : Int) := by omega
        have HN : Hid (contsOk l = false) := by show _ = _; rw [HQ.out]; exact all_fail HP.out (by simp; omega)
        go_wp2_with fail
        go_ret
        exact ⟨by rw [HN.out]; rfl, rfl⟩
      · have hs' : decide ((40 : Int) < (r.length : Int)) = false := by simp; omega
        have HN : Hid ((l.take (j + 1)).all (fun r => decide (r.length ≤ 40)) = true) := all_take HP.out HALL.out (by simp; omega)
        clear hs
        go_wp2_with fail
        go_roundw
        case rel => exact ⟨j + 1, by omega, by go_num, HN.out, by trivial⟩
        case measure => simp [intOf]; omega
    · obtain rfl : j = l.length := by omega
      have HN : Hid (contsOk l = true) := by show _ = _; rw [HQ.out, ← HALL.out, List.take_length]
      go_wp2_with fail
      go_ret
      exact ⟨by rw [HN.out]; rfl, rfl⟩

theorem out_cmp (W : World) (x y : Int) : (binOp .neq 80 (.agg #[.int .i64 x, .int .i32 y]) (.agg #[.int .i64 x, .int .i32 y])).run Try.prog W = .ok (.bool false) W := by
  have u3 := Try.underlying3
  have a3 := Try.isAgg3
  have z3 := Try.sizeOf3
  have u9 := Try.underlying21
  have a9 := Try.isAgg21
  have z9 := Try.sizeOf21
  have hS : Try.prog.underlying 80 = some (.struct (Try.prog.fieldsOf 80)) := by kernel_rfl
  have hp : Try.prog.stoodInHeld 80 = false := by kernel_rfl
  rw [run_neq_struct, show (10000 : Nat) = 9999 + 1 from rfl, run_equalIn_agg W 9999 80 _ _ hS hp]
  simp only [Program.fieldsOf, Try.underlying80]
  go_simp
theorem outputs_eq (l : List (Int × Int)) (a b : Option Addr) (c d : Nat) (w : World) (hl : OutsAt w a l) (hm : OutsAt w b l) :
    Calls Try.prog 23 #[.slice a l.length c, .slice b l.length d] w fun e w' => e = .returned (.bool true) ∧ ∃ m, w' = World.drewN w m := by
  have HL := Lib.hid hl
  have HM := Lib.hid hm
  have hlf := hl.fits
  clear hl hm
  go_enter Try.func23, Try.ntmps23
  go_wp2_with fail
  go_loopw [5] (fun i wr => ∃ j : Nat, j ≤ l.length ∧ i = .int .i64 j ∧ ∃ m, wr = World.drewN w m) (fun i _ => l.length - (intOf i).toNat)
  case atStart => exact ⟨0, Nat.zero_le _, rfl, 0, rfl⟩
  case round =>
    obtain ⟨j, hj, rfl, hB⟩ := hrel
    have HD := Lib.hid hB
    have HB := Lib.hid (below_drew hB)
    clear hB
    have hk0 : (0 : Int) ≤ (j : Int) := by omega
    by_cases hlt : j < l.length
    · obtain ⟨r, hr⟩ : ∃ r, l[j]? = some r := ⟨_, List.getElem?_eq_getElem hlt⟩
      rcases HL.out.at_ with h0 | ⟨lb, lo, rfl, hc⟩
      · omega
      rcases HM.out.at_ with h0 | ⟨mb, mo, rfl, hd⟩
      · omega
      obtain ⟨c1, c2⟩ := hc j r hr
      obtain ⟨c3, c4⟩ := hd j r hr
      have f1 := cell_below HB.out c1
      have f2 := cell_below HB.out c2
      have f3 := cell_below HB.out c3
      have f4 := cell_below HB.out c4
      have hk1 : (j : Int) < (l.length : Int) := by omega
      have hcmp := fun W => out_cmp W r.1 r.2
      clear hc hd hr c1 c2 c3 c4
      go_wp2_with fail
      go_quiet (fail)
      generalize hV : World.drewN _ _ = V
      have HBV : Hid (∃ m, V = World.drewN w m) := drew_more HD.out hV
      clear hV
      go_wp2_with fail
      go_roundw
      case rel => exact ⟨j + 1, by omega, by go_num, HBV.out⟩
      case measure => simp [intOf]; omega
    · obtain rfl : j = l.length := by omega
      go_wp2_with fail
      go_ret
      exact ⟨rfl, HD.out⟩
theorem conts_eq (l : List (List Int)) (a b : Option Addr) (c d : Nat) (w : World) (hl : ContAt w a l) (hm : ContAt w b l) :
    Calls Try.prog 20 #[.slice a l.length c, .slice b l.length d] w fun e w' => e = .returned (.bool true) ∧ ∃ m, w' = World.drewN w m := by
  have HL := Lib.hid hl
  have HM := Lib.hid hm
  have hlf := hl.fits
  clear hl hm
  go_enter Try.func20, Try.ntmps20
  go_wp2_with fail
  go_loopw [5] (fun i wr => ∃ j : Nat, j ≤ l.length ∧ i = .int .i64 j ∧ ∃ m, wr = World.drewN w m) (fun i _ => l.length - (intOf i).toNat)
  case atStart => exact ⟨0, Nat.zero_le _, rfl, 0, rfl⟩
  case round =>
    obtain ⟨j, hj, rfl, hB⟩ := hrel
    have HD := Lib.hid hB
    have HB := Lib.hid (below_drew hB)
    clear hB
    have hk0 : (0 : Int) ≤ (j : Int) := by omega
    by_cases hlt : j < l.length
    · obtain ⟨r, hr⟩ : ∃ r, l[j]? = some r := ⟨_, List.getElem?_eq_getElem hlt⟩
      rcases HL.out.at_ with h0 | ⟨lb, lo, rfl, hc⟩
      · omega
      rcases HM.out.at_ with h0 | ⟨mb, mo, rfl, hd⟩
      · omega
      obtain ⟨ra, rc, c1, _, hwa⟩ := hc j r hr
      obtain ⟨rb, rd, c2, _, hwb⟩ := hd j r hr
      have HC1 := Lib.hid c1
      have HC2 := Lib.hid c2
      have f1 := cell_below HB.out c1
      have f2 := cell_below HB.out c2
      have hk1 : (j : Int) < (l.length : Int) := by omega
      have hrf := hwa.fits
      have HWA := Lib.hid hwa
      have HWB := Lib.hid hwb
      clear hc hd hr c1 c2 hwa hwb
      go_wp2_with fail
      go_quiet (fail)
      generalize hV : World.drewN _ _ = V
      have HBV : Hid (∃ m, V = World.drewN w m) := drew_more HD.out hV
      clear hV f1 f2
      go_wp2_with fail
      go_loopw [6] (fun i wr => ∃ k : Nat, k ≤ r.length ∧ i = .int .i64 k ∧ ∃ m, wr = World.drewN w m) (fun i _ => r.length - (intOf i).toNat)
      case atStart => exact ⟨0, Nat.zero_le _, rfl, HBV.out⟩
      case round =>
        obtain ⟨k, hk, rfl, hB2⟩ := hrel
        have HD2 := Lib.hid hB2
        have HB2 := Lib.hid (below_drew hB2)
        clear hB2
        have hk2 : (0 : Int) ≤ (k : Int) := by omega
        have f1 := cell_below HB2.out HC1.out
        have f2 := cell_below HB2.out HC2.out
        by_cases hkl : k < r.length
        · obtain ⟨x, hx⟩ : ∃ x, r[k]? = some x := ⟨_, List.getElem?_eq_getElem hkl⟩
          rcases HWA.out.at_ with h0 | ⟨rab, rao, rfl, hca⟩
          · omega
          rcases HWB.out.at_ with h0 | ⟨rbb, rbo, rfl, hcb⟩
          · omega
          have g1 := cell_below HB2.out (hca k x hx)
          have g2 := cell_below HB2.out (hcb k x hx)
          have hk3 : (k : Int) < (r.length : Int) := by omega
          clear hca hcb hx
          go_wp2_with fail
          go_quiet (fail)
          generalize hV : World.drewN _ _ = V2
          have HBV2 : Hid (∃ m, V2 = World.drewN w m) := drew_more HD2.out hV
          clear hV
          go_wp2_with fail
          go_roundw
          case rel => exact ⟨k + 1, by omega, by go_num, HBV2.out⟩
          case measure => simp [intOf]; omega
        · obtain rfl : k = r.length := by omega
          go_wp2_with fail
          go_roundw
          case rel => exact ⟨j + 1, by omega, by go_num, HD2.out⟩
          case measure => simp [intOf]; omega
    · obtain rfl : j = l.length := by omega
      go_wp2_with fail
      go_ret
      exact ⟨rfl, HD.out⟩
end Go.Proofs.Ytjdfcpjlmfaaaaa
