/-
  Contract: Valid (package ontimeref17).
-/
import Derived.Test.YtjdfcpjlmfaaaaaRef17Ins
import Derived.Test.YtjdfcpjlmfaaaaaIrMem
import Derived.Test.YtjdfcpjlmfaaaaaIrValid
import Derived.StillTailTactics
namespace Go.Proofs.Ytjdfcpjlmfaaaaa
set_option linter.unusedVariables false
set_option linter.unusedSimpArgs false
open Go.RowKit
set_option maxRecDepth 100000

/-- what the reference asks of an array, of an object, of a block -/
def arrOkR (f : Fn) (shared : List (ByteArray × Int)) (i : Nat) : Prop := ∀ p, f.arrays[i]? = some p → 1 ≤ p.2 ∧ p.2 ≤ 32 ∧ idx f.arrays p.1 = (i : Int) ∧ idx shared p.1 < 0
def objOkR (shared : List (ByteArray × Int)) (i : Nat) : Prop := ∀ p, shared[i]? = some p → idx shared p.1 = (i : Int)
def blkOkR (f : Fn) (shared : List (ByteArray × Int)) (b : Blk) : Bool := b.code.all (refInsOk f.regs f.arrays shared) && endOk f.regs f.blocks.length b
def RefOk (f : Fn) (shared : List (ByteArray × Int)) : Prop :=
  0 < f.blocks.length ∧ 0 ≤ f.regs ∧ f.regs ≤ 10000 ∧ f.arrays.length ≤ 4 ∧ (∀ i, i < f.arrays.length → arrOkR f shared i) ∧ (∀ i, i < shared.length → objOkR shared i) ∧ f.blocks.all (blkOkR f shared) = true
/-- the answer of the reference -/
def RefSays (f : Fn) (shared : List (ByteArray × Int)) (w : World) (e : Ending) (w' : World) : Prop := (∃ b : Bool, e = .returned (.bool b) ∧ (b = true ↔ RefOk f shared)) ∧ Below w.heap.size w w'
theorem says_no {f : Fn} {shared : List (ByteArray × Int)} {w w' : World} (h : ¬ RefOk f shared) (hB : Below w.heap.size w w') : RefSays f shared w (.returned (.bool false)) w' := ⟨⟨false, rfl, by simp [h]⟩, hB⟩
theorem says_yes {f : Fn} {shared : List (ByteArray × Int)} {w w' : World} (h : RefOk f shared) (hB : Below w.heap.size w w') : RefSays f shared w (.returned (.bool true)) w' := ⟨⟨true, rfl, by simp [h]⟩, hB⟩

theorem neq_t {a : Int} (h : (a != 0) = true) : ¬ a = 0 := by simpa using h
theorem neq_f {a : Int} (h : (a != 0) = false) : a = 0 := by simpa using h

section
set_option maxHeartbeats 16000000
theorem refValid_any (f : Fn) (shared : List (ByteArray × Int)) (aa ba sa : Option Addr) (ac bc sc : Nat) (w : World) (hf : FnAt w f aa ba) (hs : ArrsAt w sa shared) :
    Calls Try.prog 13 #[fnVal f.name f.regs aa f.arrays.length ac ba f.blocks.length bc, .slice sa shared.length sc] w (RefSays f shared w) := by
  have HF := Lib.hid hf
  have HS := Lib.hid hs
  have la := hf.arrays.fits
  have lb := hf.blocks.fits
  have ls := hs.fits
  clear hf hs
  by_cases h1 : f.blocks.length = 0
  · have HN : Hid (¬ RefOk f shared) := fun h => by have := h.1; omega
    have h1' : (f.blocks.length : Int) = 0 := by omega
    go_enter Try.func13, Try.ntmps13
    go_wp2_with fail
    go_ret
    exact says_no HN.out ((Below.refl _ _).alloc (Nat.le_refl _) _)
  have h1' : ((f.blocks.length : Int) == 0) = false := beq_eq_false_iff_ne.2 (by omega)
  by_cases h2 : f.regs < 0
  · have HN : Hid (¬ RefOk f shared) := fun h => by have := h.2.1; omega
    go_enter Try.func13, Try.ntmps13
    go_wp2_with fail
    go_ret
    exact says_no HN.out ((Below.refl _ _).alloc (Nat.le_refl _) _)
  have h2' : decide (f.regs < 0) = false := by simp; omega
  by_cases h3 : 10000 < f.regs
  · have HN : Hid (¬ RefOk f shared) := fun h => by have := h.2.2.1; omega
    go_enter Try.func13, Try.ntmps13
    go_wp2_with fail
    go_ret
    exact says_no HN.out ((Below.refl _ _).alloc (Nat.le_refl _) _)
  have h3' : decide (10000 < f.regs) = false := by simp; omega
  by_cases h4 : 4 < f.arrays.length
  · have HN : Hid (¬ RefOk f shared) := fun h => by have := h.2.2.2.1; omega
    have h4' : (4 : Int) < (f.arrays.length : Int) := by omega
    go_enter Try.func13, Try.ntmps13
    go_wp2_with fail
    go_ret
    exact says_no HN.out ((Below.refl _ _).alloc (Nat.le_refl _) _)
  have h4' : decide ((4 : Int) < (f.arrays.length : Int)) = false := by simp; omega
  have HQ : Hid (0 < f.blocks.length ∧ 0 ≤ f.regs ∧ f.regs ≤ 10000 ∧ f.arrays.length ≤ 4) := ⟨by omega, by omega, by omega, by omega⟩
  clear h1 h2 h3
  obtain ⟨W, hW⟩ : ∃ W : World, (w.alloc (.cells #[.string f.name, .int .i64 f.regs, .slice aa f.arrays.length ac, .slice ba f.blocks.length bc] 32)) = W := ⟨_, rfl⟩
  have hWs : W.heap.size = w.heap.size + 1 := by rw [← hW]; simp
  have HBW : Hid (Below w.heap.size w W) := by show Below _ _ _; rw [← hW]; exact (Below.refl _ _).alloc (Nat.le_refl _) _
  have x0 : W.cell? ⟨w.heap.size, 0, none⟩ = some (.string f.name) := by rw [← hW]; simp
  have x1 : W.cell? ⟨w.heap.size, 1, none⟩ = some (.int .i64 f.regs) := by rw [← hW]; simp
  have x2 : W.cell? ⟨w.heap.size, 2, none⟩ = some (.slice aa f.arrays.length ac) := by rw [← hW]; simp
  have x3 : W.cell? ⟨w.heap.size, 3, none⟩ = some (.slice ba f.blocks.length bc) := by rw [← hW]; simp
  have HX := Lib.hid (And.intro x0 (And.intro x1 (And.intro x2 x3)))
  have HWF := Lib.hid (HF.out.below HBW.out)
  have HWS := Lib.hid (HS.out.below HBW.out)
  clear HF HS
  go_enter Try.func13, Try.ntmps13
  go_wp2_with fail
  clear hW x0 x1 x2 x3 h1' h2' h3' h4'
  go_loopw [5] (fun i wr => ∃ (j : Nat), j ≤ f.arrays.length ∧ i = .int .i64 (j : Nat) ∧ (∀ i, i < j → arrOkR f shared i) ∧ Below W.heap.size W wr) (fun i _ => f.arrays.length - (intOf i).toNat)
  case atStart => exact ⟨0, Nat.zero_le _, rfl, fun i hi => absurd hi (by omega), Below.refl _ _⟩
  case round =>
    obtain ⟨j, hj, rfl, hall, hB⟩ := hrel
    have HALL := Lib.hid hall
    have hBs := hB.size
    have HB := Lib.hid hB
    clear hall hB
    have hk0 : (0 : Int) ≤ (j : Int) := by omega
    obtain ⟨x0, x1, x2, x3⟩ := HX.out
    have y2 := (HB.out.cell (p := ⟨w.heap.size, 2, none⟩) (by show w.heap.size < _; omega)).trans x2
    clear x0 x1 x2 x3
    by_cases hlt : j < f.arrays.length
    · obtain ⟨p, hp⟩ : ∃ p, f.arrays[j]? = some p := ⟨_, List.getElem?_eq_getElem hlt⟩
      have HP := Lib.hid hp
      have HWA := Lib.hid HWF.out.arrays
      rcases HWF.out.arrays.at_ with h0 | ⟨b, off, rfl, hc⟩
      · omega
      obtain ⟨c1, c2⟩ := hc j p hp
      have f1 := cell_below HB.out c1
      have f2 := cell_below HB.out c2
      have hk1 : (j : Int) < (f.arrays.length : Int) := by omega
      have hb9 : b < wr.heap.size := World.block_lt_of_cell? _ _ f1
      clear hc hp c1 c2
      obtain ⟨A, hA⟩ : ∃ A : World, wr.alloc (.cells #[.string p.1, .int .i64 p.2] 68) = A := ⟨_, rfl⟩
      have hBA : Below wr.heap.size wr A := by rw [← hA]; exact (Below.refl _ _).alloc (Nat.le_refl _) _
      have HBA := Lib.hid (HB.out.trans (hBA.mono hBs))
      clear hBA
      have a0 : A.cell? ⟨wr.heap.size, 0, none⟩ = some (.string p.1) := by rw [← hA]; simp
      have a1 : A.cell? ⟨wr.heap.size, 1, none⟩ = some (.int .i64 p.2) := by rw [← hA]; simp
      have a2 : A.cell? ⟨w.heap.size, 2, none⟩ = some (.slice (some ⟨b, off, none⟩) f.arrays.length ac) := (HBA.out.cell (p := ⟨w.heap.size, 2, none⟩) (by show w.heap.size < _; omega)).trans HX.out.2.2.1
      have HIA := Lib.hid (HWA.out.below HBA.out)
      have HIS := Lib.hid (HWS.out.below HBA.out)
      obtain ⟨xa, hxa⟩ : ∃ x, idx f.arrays p.1 = x := ⟨_, rfl⟩
      obtain ⟨xs, hxs⟩ : ∃ x, idx shared p.1 = x := ⟨_, rfl⟩
      have CA : Hid (Calls Try.prog 35 #[.slice (some ⟨b, off, none⟩) f.arrays.length ac, .string p.1] A fun e w' => e = .returned (.int .i64 xa) ∧ A = w') := by
        rw [← hxa]; exact index_any f.arrays _ ac p.1 A HIA.out
      have CS : Hid (Calls Try.prog 35 #[.slice sa shared.length sc, .string p.1] A fun e w' => e = .returned (.int .i64 xs) ∧ A = w') := by
        rw [← hxs]; exact index_any shared _ sc p.1 A HIS.out
      have HN : Hid (¬ (1 ≤ p.2 ∧ p.2 ≤ 32 ∧ xa = (j : Int) ∧ xs < 0) → ¬ RefOk f shared) := fun hn h => hn (by have := h.2.2.2.2.1 j hlt p HP.out; rw [hxa, hxs] at this; exact this)
      have HY : Hid ((1 ≤ p.2 ∧ p.2 ≤ 32 ∧ xa = (j : Int) ∧ xs < 0) → ∀ i, i < j + 1 → arrOkR f shared i) := fun hy i hi => by
        by_cases e : i = j
        · subst e
          intro q hq
          rw [HP.out] at hq
          cases hq
          rw [hxa, hxs]
          exact hy
        · exact HALL.out i (by omega)
      clear hxa hxs
      by_cases t1 : p.2 < 1
      · go_wp2_with fail
        go_ret
        exact says_no (HN.out (by omega)) (HBW.out.trans (HBA.out.mono (by omega)))
      have t1' : decide (p.2 < 1) = false := by simp; omega
      by_cases t2 : 32 < p.2
      · go_wp2_with fail
        go_ret
        exact says_no (HN.out (by omega)) (HBW.out.trans (HBA.out.mono (by omega)))
      have t2' : decide (32 < p.2) = false := by simp; omega
      by_cases t3 : xa = (j : Int)
      · subst t3
        have t3' : ((j : Int) != (j : Int)) = false := by simp
        by_cases t4 : 0 ≤ xs
        · go_wp2_with (first
            | (go_at_call 35; ((with_reducible refine CA.out.mono ?_); rintro e w' ⟨rfl, rfl⟩))
            | (go_at_call 35; ((with_reducible refine CS.out.mono ?_); rintro e w' ⟨rfl, rfl⟩)))
          go_ret
          exact says_no (HN.out (by omega)) (HBW.out.trans (HBA.out.mono (by omega)))
        · have t4' : decide (0 ≤ xs) = false := by simp; omega
          have HYY := Lib.hid (HY.out (by omega))
          clear t4
          go_wp2_with (first
            | (go_at_call 35; ((with_reducible refine CA.out.mono ?_); rintro e w' ⟨rfl, rfl⟩))
            | (go_at_call 35; ((with_reducible refine CS.out.mono ?_); rintro e w' ⟨rfl, rfl⟩)))
          clear t1' t2' t3' t4'
          go_roundw
          case rel => exact ⟨j + 1, by omega, by go_num, HYY.out, HBA.out⟩
          case measure => simp [intOf]; omega
      · have t3' : (xa != (j : Int)) = true := by simpa using t3
        have HNN := Lib.hid (HN.out (by omega))
        clear t3
        go_wp2_with (first
          | (go_at_call 35; ((with_reducible refine CA.out.mono ?_); rintro e w' ⟨rfl, rfl⟩))
          | (go_at_call 35; ((with_reducible refine CS.out.mono ?_); rintro e w' ⟨rfl, rfl⟩)))
        go_ret
        exact says_no HNN.out (HBW.out.trans (HBA.out.mono (by omega)))
    · obtain rfl : j = f.arrays.length := by omega
      go_wp2_with fail
      clear y2 hlt hj hk0
      obtain ⟨wq, rfl⟩ : ∃ wq : World, wq = wr := ⟨_, rfl⟩
      go_loopw [7] (fun i wr => ∃ (j : Nat), j ≤ shared.length ∧ i = .int .i64 (j : Nat) ∧ (∀ i, i < j → objOkR shared i) ∧ wr = wq) (fun i _ => shared.length - (intOf i).toNat)
      case atStart => exact ⟨0, Nat.zero_le _, rfl, fun i hi => absurd hi (by omega), rfl⟩
      case round =>
        obtain ⟨j, hj, rfl, hobj, rfl⟩ := hrel
        have HOBJ := Lib.hid hobj
        clear hobj
        have hk0 : (0 : Int) ≤ (j : Int) := by omega
        by_cases hlt : j < shared.length
        · obtain ⟨p, hp⟩ : ∃ p, shared[j]? = some p := ⟨_, List.getElem?_eq_getElem hlt⟩
          have HP := Lib.hid hp
          rcases HWS.out.at_ with h0 | ⟨b, off, rfl, hc⟩
          · omega
          obtain ⟨c1, c2⟩ := hc j p hp
          have f1 := cell_below HB.out c1
          have hk1 : (j : Int) < (shared.length : Int) := by omega
          clear hc hp c1 c2
          obtain ⟨xs, hxs⟩ : ∃ x, idx shared p.1 = x := ⟨_, rfl⟩
          have CS : Hid (Calls Try.prog 35 #[.slice (some ⟨b, off, none⟩) shared.length sc, .string p.1] wr fun e w' => e = .returned (.int .i64 xs) ∧ wr = w') := by
            rw [← hxs]; exact index_any shared _ sc p.1 wr (HWS.out.below HB.out)
          by_cases t3 : xs = (j : Int)
          · subst t3
            have t3' : ((j : Int) != (j : Int)) = false := by simp
            have HYY : Hid (∀ i, i < j + 1 → objOkR shared i) := fun i hi => by
              by_cases e : i = j
              · subst e
                intro q hq
                rw [HP.out] at hq
                cases hq
                exact hxs
              · exact HOBJ.out i (by omega)
            clear hxs
            go_wp2_with (go_at_call 35; ((with_reducible refine CS.out.mono ?_); rintro e w' ⟨rfl, rfl⟩))
            clear t3'
            go_roundw
            case rel => exact ⟨j + 1, by omega, by go_num, HYY.out, by trivial⟩
            case measure => simp [intOf]; omega
          · have t3' : (xs != (j : Int)) = true := by simpa using t3
            have HNN : Hid (¬ RefOk f shared) := fun h => t3 (by have := h.2.2.2.2.2.1 j hlt p HP.out; rw [hxs] at this; exact this)
            clear t3 hxs
            go_wp2_with (go_at_call 35; ((with_reducible refine CS.out.mono ?_); rintro e w' ⟨rfl, rfl⟩))
            go_ret
            exact says_no HNN.out (HBW.out.trans (HB.out.mono (by omega)))
        · obtain rfl : j = shared.length := by omega
          clear hlt hj hk0
          obtain ⟨x0, x1, x2, x3⟩ := HX.out
          have y3 := (HB.out.cell (p := ⟨w.heap.size, 3, none⟩) (by show w.heap.size < _; omega)).trans x3
          clear x0 x1 x2 x3
          go_wp2_with fail
          clear y3
          obtain ⟨wq, rfl⟩ : ∃ wq : World, wq = wr := ⟨_, rfl⟩
          go_loopw [9] (fun i wr => ∃ (j : Nat), j ≤ f.blocks.length ∧ i = .int .i64 (j : Nat) ∧ (f.blocks.take j).all (blkOkR f shared) = true ∧ Below W.heap.size W wr) (fun i _ => f.blocks.length - (intOf i).toNat)
          case atStart => exact ⟨0, Nat.zero_le _, rfl, rfl, HB.out⟩
          case round =>
            clear HB hBs
            obtain ⟨j, hj, rfl, hbl, hB⟩ := hrel
            have HBL := Lib.hid hbl
            have hBs := hB.size
            have HB := Lib.hid hB
            clear hbl hB
            have hk0 : (0 : Int) ≤ (j : Int) := by omega
            by_cases hlt : j < f.blocks.length
            · skip
              obtain ⟨p, hp⟩ : ∃ p, f.blocks[j]? = some p := ⟨_, List.getElem?_eq_getElem hlt⟩
              have HP := Lib.hid hp
              rcases HWF.out.blocks.at_ with h0 | ⟨b, off, rfl, hc⟩
              · omega
              obtain ⟨ca, cc, hblk, hcode⟩ := hc j p hp
              have HCODE := Lib.hid hcode
              have hcl := hcode.fits
              obtain ⟨f0, f1, f2, f3, f4⟩ := hblk.below HB.out
              have hk1 : (j : Int) < (f.blocks.length : Int) := by omega
              obtain ⟨x0, x1, x2, x3⟩ := HX.out
              have y3 := (HB.out.cell (p := ⟨w.heap.size, 3, none⟩) (by show w.heap.size < _; omega)).trans x3
              have hb9 : b < wr.heap.size := World.block_lt_of_cell? _ _ f0
              clear hc hp hblk hcode x0 x1 x2 x3
              obtain ⟨V, hV⟩ : ∃ V : World, wr.alloc (.cells #[.slice ca p.code.length cc, .int .u8 p.kind, .int .i64 p.x, .int .i64 p.to, .int .i64 p.els] 75) = V := ⟨_, rfl⟩
              have hVs : V.heap.size = wr.heap.size + 1 := by rw [← hV]; simp
              have HVB : Hid (Below W.heap.size W V) := by show Below _ _ _; rw [← hV]; exact HB.out.alloc hBs _
              have v0 : V.cell? ⟨wr.heap.size, 0, none⟩ = some (.slice ca p.code.length cc) := by rw [← hV]; simp
              have v1 : V.cell? ⟨wr.heap.size, 1, none⟩ = some (.int .u8 p.kind) := by rw [← hV]; simp
              have v2 : V.cell? ⟨wr.heap.size, 2, none⟩ = some (.int .i64 p.x) := by rw [← hV]; simp
              have v3 : V.cell? ⟨wr.heap.size, 3, none⟩ = some (.int .i64 p.to) := by rw [← hV]; simp
              have v4 : V.cell? ⟨wr.heap.size, 4, none⟩ = some (.int .i64 p.els) := by rw [← hV]; simp
              have HV := Lib.hid (And.intro v0 (And.intro v1 (And.intro v2 (And.intro v3 v4))))
              go_wp2_with fail
              clear hV v0 v1 v2 v3 v4 f0 f1 f2 f3 f4 y3
              obtain ⟨wo, rfl⟩ : ∃ wo : World, wo = wr := ⟨_, rfl⟩
              go_loopw [11] (fun i wi => ∃ (k : Nat), k ≤ p.code.length ∧ i = .int .i64 (k : Nat) ∧ (p.code.take k).all (refInsOk f.regs f.arrays shared) = true ∧ Below V.heap.size V wi) (fun i _ => p.code.length - (intOf i).toNat)
              case atStart => exact ⟨0, Nat.zero_le _, rfl, rfl, Below.refl _ _⟩
              case round =>
                obtain ⟨k, hk, rfl, hal, hB4⟩ := hrel
                have hw9 : w.heap.size < wr.heap.size := by have := hB4.size; omega
                have HAL := Lib.hid hal
                have hB4s := hB4.size
                have HB4 := Lib.hid hB4
                clear hal hB4
                have hk2 : (0 : Int) ≤ (k : Int) := by omega
                have HBA := Lib.hid (HVB.out.trans (HB4.out.mono (by omega)))
                obtain ⟨x0, x1, x2, x3⟩ := HX.out
                have y0 := (HBA.out.cell (p := ⟨w.heap.size, 0, none⟩) (by show w.heap.size < _; omega)).trans x0
                have y1 := (HBA.out.cell (p := ⟨w.heap.size, 1, none⟩) (by show w.heap.size < _; omega)).trans x1
                have y2 := (HBA.out.cell (p := ⟨w.heap.size, 2, none⟩) (by show w.heap.size < _; omega)).trans x2
                have y3 := (HBA.out.cell (p := ⟨w.heap.size, 3, none⟩) (by show w.heap.size < _; omega)).trans x3
                clear x0 x1 x2 x3
                obtain ⟨v0, v1, v2, v3, v4⟩ := HV.out
                have u0 := (HB4.out.cell (p := ⟨wo.heap.size, 0, none⟩) (by show wo.heap.size < _; omega)).trans v0
                by_cases hkl : k < p.code.length
                · clear v0 v1 v2 v3 v4
                  obtain ⟨q, hq⟩ : ∃ q, p.code[k]? = some q := ⟨_, List.getElem?_eq_getElem hkl⟩
                  have HQI := Lib.hid hq
                  obtain ⟨op0, op1, _, _, _, _, _⟩ := HCODE.out.wf q (List.mem_of_getElem? hq)
                  rcases HCODE.out.at_ with h0 | ⟨cb, co, rfl, hcc⟩
                  · omega
                  obtain ⟨c0, c1, c2, c3, c4, c5⟩ := (hcc k q hq).below HBA.out
                  have hk3 : (k : Int) < (p.code.length : Int) := by omega
                  clear hcc hq
                  have HBD := Lib.hid (HBA.out.trans ((Below.refl _ _).drew.mono HBA.out.size))
                  have HOP := Lib.hid (And.intro op0 op1)
                  clear op0 op1
                  go_wp2_with fail
                  go_still_tail 7, (by kernel_rfl)
                  change wpList _ _ _ _ _ wr.drew
                  clear y0 y1 y2 y3 u0 c0 c1 c2 c3 c4 c5
                  go_wp2_with fail
                  refine (refValidIns_any f.name f.regs aa (some ⟨b, off, none⟩) sa ac _ bc sc f.arrays shared q _ HOP.out.1 HOP.out.2 (HWF.out.arrays.below HBD.out) (HWS.out.below HBD.out)).mono ?_
                  rintro e w5 ⟨rfl, hB5⟩
                  have HB5 := Lib.hid (HBD.out.trans (hB5.mono HBD.out.size))
                  have HB6 := Lib.hid ((HB4.out.trans ((Below.refl _ _).drew.mono hB4s)).trans (hB5.mono (by exact hB4s)))
                  clear hB5
                  cases ho : refInsOk f.regs f.arrays shared q with
                  | true =>
                    have HN : Hid ((p.code.take (k + 1)).all (refInsOk f.regs f.arrays shared) = true) := all_take HQI.out HAL.out ho
                    clear ho
                    go_wp2_with fail
                    go_roundw
                    case rel => exact ⟨k + 1, by omega, by go_num, HN.out, HB6.out⟩
                    case measure => simp [intOf]; omega
                  | false =>
                    have HN : Hid (¬ RefOk f shared) := fun h => by
                      have h7 := h.2.2.2.2.2.2
                      rw [all_fail HP.out (by unfold blkOkR; rw [all_fail HQI.out ho]; rfl)] at h7
                      cases h7
                    clear ho
                    go_wp2_with fail
                    go_ret
                    exact says_no HN.out (HBW.out.trans (HB5.out.mono (by omega)))
                · obtain rfl : k = p.code.length := by omega
                  have u1 := (HB4.out.cell (p := ⟨wo.heap.size, 1, none⟩) (by show wo.heap.size < _; omega)).trans v1
                  have u2 := (HB4.out.cell (p := ⟨wo.heap.size, 2, none⟩) (by show wo.heap.size < _; omega)).trans v2
                  have u3 := (HB4.out.cell (p := ⟨wo.heap.size, 3, none⟩) (by show wo.heap.size < _; omega)).trans v3
                  have u4 := (HB4.out.cell (p := ⟨wo.heap.size, 4, none⟩) (by show wo.heap.size < _; omega)).trans v4
                  clear v0 v1 v2 v3 v4
                  have HNO : Hid (endOk f.regs f.blocks.length p = false → ¬ RefOk f shared) := fun he h => by
                    have h7 := h.2.2.2.2.2.2
                    rw [all_fail HP.out (by unfold blkOkR; rw [he]; simp)] at h7
                    cases h7
                  have HYE : Hid (endOk f.regs f.blocks.length p = true → (f.blocks.take (j + 1)).all (blkOkR f shared) = true) := fun he => by
                    refine all_take HP.out HBL.out ?_
                    unfold blkOkR
                    rw [he]
                    have := HAL.out
                    rw [List.take_length] at this
                    rw [this]
                    rfl
                  go_wp2_with fail
                  all_goals
                    first
                      | (go_ret
                         refine says_no (HNO.out ?_) (HBW.out.trans (HBA.out.mono (by omega)))
                         first | (simp [endOk, *]; done) | (simp [endOk, *]; intros; omega) | (simp [endOk, *]; omega) | (have hq := neq_t (a := p.els) (by assumption); simp [endOk, *]; done))
                      | (have he : endOk f.regs f.blocks.length p = true := by
                           first | (simp [endOk, *]; done) | (simp [endOk, *]; intros; omega) | (simp [endOk, *]; omega) | (have hq := neq_f (a := p.els) (by assumption); simp [endOk, *]; done)
                         have HYY := Lib.hid (HYE.out he)
                         clear he
                         go_roundw
                         case rel => exact ⟨j + 1, by omega, by go_num, HYY.out, HBA.out⟩
                         case measure => simp [intOf]; omega)
            · obtain rfl : j = f.blocks.length := by omega
              have HN : Hid (RefOk f shared) := ⟨HQ.out.1, HQ.out.2.1, HQ.out.2.2.1, HQ.out.2.2.2, HALL.out, HOBJ.out, by have := HBL.out; rwa [List.take_length] at this⟩
              go_wp2_with fail
              go_ret
              exact says_yes HN.out (HBW.out.trans (HB.out.mono (by omega)))
end
end Go.Proofs.Ytjdfcpjlmfaaaaa
