/-
  The walk of WordSymbols: it returns true, whatever the kind, where the table of package word lies in the memory.
-/
import Derived.Test.YtgdinmlpogpadaaDoorWordSyms
import Derived.Deep.RegionWith
import Derived.Deep.Cut
import Derived.Deep.CutRange
import Derived.Deep.DeepCutAuto
import Derived.BigGuardPart
import Derived.Outline
namespace Go.Proofs.YtgdinmlpogpadaaDoor
open Go.RowKit
set_option maxRecDepth 100000

theorem TabIn.below {w w' : World} (h : TabIn w) (hb : Below w.heap.size w w') : TabIn w' := by
  have h0 : 0 < w.heap.size := World.block_lt_of_cell? w _ (h 0 (by omega)).1
  intro k hk
  rw [hb.cell (p := ⟨0, 2 * k, none⟩) h0, hb.cell (p := ⟨0, 2 * k + 1, none⟩) h0]
  exact h k hk

/-- what stands behind the first assignment -/
theorem symOf_else (k : Nat) (h : k < 4 ∨ 23 < k) : symOf k = ⟨#[]⟩ := by
  unfold symOf
  by_cases h4 : k < 4
  · have : k = 0 ∨ k = 1 ∨ k = 2 ∨ k = 3 := by omega
    rcases this with rfl | rfl | rfl | rfl <;> rfl
  · rw [List.getD_eq_getElem?_getD, List.getElem?_eq_none (by simp [symTab]; omega)]; rfl
theorem lvlOf_else (k : Nat) (h : k < 4 ∨ 23 < k) : lvlOf k = 0 := by
  unfold lvlOf
  by_cases h4 : k < 4
  · have : k = 0 ∨ k = 1 ∨ k = 2 ∨ k = 3 := by omega
    rcases this with rfl | rfl | rfl | rfl <;> rfl
  · rw [List.getD_eq_getElem?_getD, List.getElem?_eq_none (by simp [lvlTab]; omega)]; rfl
theorem opsTo_at (j : Nat) (h : j < 18) : (opsTo 18)[j]? = some (.int .u8 (6 + (j : Int))) := by
  simp [opsTo, h]

set_option maxHeartbeats 2000000 in
theorem symbolsLaw_in (k : Nat) (h1 : 4 ≤ k) (h2 : k ≤ 23) (w : World) (ht : TabIn w) :
    Calls Tryd.prog 3 #[.int .u8 k] w fun e w' => e = .returned (.bool true) ∧ Below w.heap.size w w' := by
  have HT := Lib.hid ht
  clear ht
  have hk : k ≤ 255 := by omega
  have d1 : decide ((4 : Int) ≤ (k : Int)) = true := by simp; omega
  have d2 : decide ((k : Int) ≤ 23) = true := by simp; omega
  go_enter Tryd.func3, Tryd.ntmps3
  go_wp2_with fail
  go_cut [3, 4] (fun s l w' => s = .string (symOf k) ∧ l = .int .i64 (lvlOf k) ∧ Below w.heap.size w w')
  case first =>
    have hs := SY_at k (by omega) (by omega)
    have hl := LV_at k (by omega) (by omega)
    have q1 : IntKind.u8.wrap ((k : Int) - 4) = (k : Int) - 4 := by rw [IntKind.wrap_u8]; omega
    have q2 : 0 ≤ (k : Int) - 4 := by omega
    have q3 : (k : Int) - 4 < 20 := by omega
    have q4 : ((k : Int) - 4).toNat = k - 4 := by omega
    go_region_with (first | (go_at_call 4; refine (symbols_any _).mono ?_; rintro e w' ⟨rfl, rfl⟩) | (go_at_call 5; refine (levels_any _).mono ?_; rintro e w' ⟨rfl, rfl⟩))
    all_goals (go_wp2_with fail; go_meet; exact ⟨rfl, rfl, by repeat (first | exact Below.refl _ _ | refine Below.drew ?_ | refine Below.alloc ?_ (by simp) _)⟩)
  obtain ⟨rfl, rfl, hB⟩ := hcut
  have HT1 := Lib.hid (HT.out.below hB)
  go_wp2_with fail
  refine (operators_any _).mono ?_
  rintro e w1 ⟨v, rfl, hown, hB1⟩
  have HT2 := Lib.hid (HT1.out.below hB1)
  have hBw := hB.trans (hB1.mono hB.size)
  obtain ⟨g, cap, hg, rfl⟩ : ∃ g cap, wc.heap.size ≤ g ∧ v = .slice (some ⟨g, 0, none⟩) 18 cap := by
    rcases hown.2 with ⟨_, h0⟩ | ⟨g, cap, cur, rfl, hg, _⟩
    · omega
    · exact ⟨g, cap, hg, rfl⟩
  have hgw : w.heap.size ≤ g := Nat.le_trans hB.size hg
  go_wp2_with (first | (go_at_call 7; refine (awake_any _).mono ?_; rintro e w2 ⟨rfl, rfl⟩) | (go_at_call 8; refine (symbol_any _ hk _ HT2.out).mono ?_; rintro e w2 ⟨rfl, rfl⟩) | (go_at_call 9; refine (level_any _ hk _ HT2.out).mono ?_; rintro e w2 ⟨rfl, rfl⟩))
  go_loopw [46] (fun i wr => ∃ j : Nat, j ≤ 18 ∧ i = .int .i64 j ∧ (∀ m, j ≤ m → m < 18 → wr.cell? ⟨g, m, none⟩ = some (.int .u8 (6 + (m : Int)))) ∧ (∀ m, wr.frozen? ⟨g, m, none⟩ = false) ∧ Below w.heap.size w wr) (fun i _ => 18 - (intOf i).toNat)
  case atStart =>
    exact ⟨0, by omega, rfl, fun m _ hm => by rw [hown.cellAt m (by omega)]; exact opsTo_at m hm, fun m => hown.frozenAt m, hBw⟩
  case round =>
    obtain ⟨j, hj, rfl, hc, hf, hBr⟩ := hrel
    by_cases hlt : j < 18
    · have hcj := hc j (Nat.le_refl _) hlt
      have hfj := hf j
      have HC := Lib.hid hc
      have HF := Lib.hid hf
      clear hc hf hown
      go_wp2_with fail
      go_roundw
      case rel =>
        refine ⟨j + 1, by omega, by go_num, fun m h1 h2 => ?_, fun m => ?_, hBr.setCell (p := ⟨g, j, none⟩) hgw _⟩
        · rw [World.cell?_setCell_other _ _ _ _ (by intro h; injection h; omega)]
          exact HC.out m (by omega) h2
        · rw [World.frozen?_setCell]; exact HF.out m
      case measure => simp [intOf]; omega
    · obtain rfl : j = 18 := by omega
      clear hc hf hown
      go_wp2_with fail
      refine (operators_any _).mono ?_
      rintro e w2 ⟨v, rfl, hown, hB2⟩
      obtain ⟨g', cap', hg', rfl⟩ : ∃ g cap, wr.heap.size ≤ g ∧ v = .slice (some ⟨g, 0, none⟩) 18 cap := by
        rcases hown.2 with ⟨_, h0⟩ | ⟨g, cap, cur, rfl, hg, _⟩
        · omega
        · exact ⟨g, cap, hg, rfl⟩
      have c0 : w2.cell? ⟨g', 0, none⟩ = some (.int .u8 6) := by rw [hown.cellAt 0 (by omega)]; rfl
      have hBf := hBr.trans (hB2.mono hBr.size)
      clear hown
      go_wp2_with fail
      go_ret
      exact ⟨rfl, hBf⟩

set_option maxHeartbeats 2000000 in
theorem symbolsLaw_out (k : Nat) (hk : k ≤ 255) (h : k < 4 ∨ 23 < k) (w : World) (ht : TabIn w) :
    Calls Tryd.prog 3 #[.int .u8 k] w fun e w' => e = .returned (.bool true) ∧ Below w.heap.size w w' := by
  have HT := Lib.hid ht
  clear ht
  have hs := symOf_else k h
  have hl := lvlOf_else k h
  have hB : Below w.heap.size w w := Below.refl _ _
  rcases h with h | h
  · have d1 : decide ((4 : Int) ≤ (k : Int)) = false := by simp; omega
    go_enter Tryd.func3, Tryd.ntmps3
    have HT1 := Lib.hid (HT.out.below hB)
    go_wp2_with fail
    refine (operators_any _).mono ?_
    rintro e w1 ⟨v, rfl, hown, hB1⟩
    have HT2 := Lib.hid (HT1.out.below hB1)
    have hBw := hB.trans (hB1.mono hB.size)
    obtain ⟨g, cap, hg, rfl⟩ : ∃ g cap, w.heap.size ≤ g ∧ v = .slice (some ⟨g, 0, none⟩) 18 cap := by
      rcases hown.2 with ⟨_, h0⟩ | ⟨g, cap, cur, rfl, hg, _⟩
      · omega
      · exact ⟨g, cap, hg, rfl⟩
    have hgw : w.heap.size ≤ g := Nat.le_trans hB.size hg
    go_wp2_with (first | (go_at_call 7; refine (awake_any _).mono ?_; rintro e w2 ⟨rfl, rfl⟩) | (go_at_call 8; refine (symbol_any _ hk _ HT2.out).mono ?_; rintro e w2 ⟨rfl, rfl⟩) | (go_at_call 9; refine (level_any _ hk _ HT2.out).mono ?_; rintro e w2 ⟨rfl, rfl⟩))
    go_loopw [46] (fun i wr => ∃ j : Nat, j ≤ 18 ∧ i = .int .i64 j ∧ (∀ m, j ≤ m → m < 18 → wr.cell? ⟨g, m, none⟩ = some (.int .u8 (6 + (m : Int)))) ∧ (∀ m, wr.frozen? ⟨g, m, none⟩ = false) ∧ Below w.heap.size w wr) (fun i _ => 18 - (intOf i).toNat)
    case atStart =>
      exact ⟨0, by omega, rfl, fun m _ hm => by rw [hown.cellAt m (by omega)]; exact opsTo_at m hm, fun m => hown.frozenAt m, hBw⟩
    case round =>
      obtain ⟨j, hj, rfl, hc, hf, hBr⟩ := hrel
      by_cases hlt : j < 18
      · have hcj := hc j (Nat.le_refl _) hlt
        have hfj := hf j
        have HC := Lib.hid hc
        have HF := Lib.hid hf
        clear hc hf hown
        go_wp2_with fail
        go_roundw
        case rel =>
          refine ⟨j + 1, by omega, by go_num, fun m h1 h2 => ?_, fun m => ?_, hBr.setCell (p := ⟨g, j, none⟩) hgw _⟩
          · rw [World.cell?_setCell_other _ _ _ _ (by intro h; injection h; omega)]
            exact HC.out m (by omega) h2
          · rw [World.frozen?_setCell]; exact HF.out m
        case measure => simp [intOf]; omega
      · obtain rfl : j = 18 := by omega
        clear hc hf hown
        go_wp2_with fail
        refine (operators_any _).mono ?_
        rintro e w2 ⟨v, rfl, hown, hB2⟩
        obtain ⟨g', cap', hg', rfl⟩ : ∃ g cap, wr.heap.size ≤ g ∧ v = .slice (some ⟨g, 0, none⟩) 18 cap := by
          rcases hown.2 with ⟨_, h0⟩ | ⟨g, cap, cur, rfl, hg, _⟩
          · omega
          · exact ⟨g, cap, hg, rfl⟩
        have c0 : w2.cell? ⟨g', 0, none⟩ = some (.int .u8 6) := by rw [hown.cellAt 0 (by omega)]; rfl
        have hBf := hBr.trans (hB2.mono hBr.size)
        clear hown
        go_wp2_with fail
        go_ret
        exact ⟨rfl, hBf⟩
  · have d1 : decide ((4 : Int) ≤ (k : Int)) = true := by simp; omega
    have d2 : decide ((k : Int) ≤ 23) = false := by simp; omega
    go_enter Tryd.func3, Tryd.ntmps3
    have HT1 := Lib.hid (HT.out.below hB)
    go_wp2_with fail
    refine (operators_any _).mono ?_
    rintro e w1 ⟨v, rfl, hown, hB1⟩
    have HT2 := Lib.hid (HT1.out.below hB1)
    have hBw := hB.trans (hB1.mono hB.size)
    obtain ⟨g, cap, hg, rfl⟩ : ∃ g cap, w.heap.size ≤ g ∧ v = .slice (some ⟨g, 0, none⟩) 18 cap := by
      rcases hown.2 with ⟨_, h0⟩ | ⟨g, cap, cur, rfl, hg, _⟩
      · omega
      · exact ⟨g, cap, hg, rfl⟩
    have hgw : w.heap.size ≤ g := Nat.le_trans hB.size hg
    go_wp2_with (first | (go_at_call 7; refine (awake_any _).mono ?_; rintro e w2 ⟨rfl, rfl⟩) | (go_at_call 8; refine (symbol_any _ hk _ HT2.out).mono ?_; rintro e w2 ⟨rfl, rfl⟩) | (go_at_call 9; refine (level_any _ hk _ HT2.out).mono ?_; rintro e w2 ⟨rfl, rfl⟩))
    go_loopw [46] (fun i wr => ∃ j : Nat, j ≤ 18 ∧ i = .int .i64 j ∧ (∀ m, j ≤ m → m < 18 → wr.cell? ⟨g, m, none⟩ = some (.int .u8 (6 + (m : Int)))) ∧ (∀ m, wr.frozen? ⟨g, m, none⟩ = false) ∧ Below w.heap.size w wr) (fun i _ => 18 - (intOf i).toNat)
    case atStart =>
      exact ⟨0, by omega, rfl, fun m _ hm => by rw [hown.cellAt m (by omega)]; exact opsTo_at m hm, fun m => hown.frozenAt m, hBw⟩
    case round =>
      obtain ⟨j, hj, rfl, hc, hf, hBr⟩ := hrel
      by_cases hlt : j < 18
      · have hcj := hc j (Nat.le_refl _) hlt
        have hfj := hf j
        have HC := Lib.hid hc
        have HF := Lib.hid hf
        clear hc hf hown
        go_wp2_with fail
        go_roundw
        case rel =>
          refine ⟨j + 1, by omega, by go_num, fun m h1 h2 => ?_, fun m => ?_, hBr.setCell (p := ⟨g, j, none⟩) hgw _⟩
          · rw [World.cell?_setCell_other _ _ _ _ (by intro h; injection h; omega)]
            exact HC.out m (by omega) h2
          · rw [World.frozen?_setCell]; exact HF.out m
        case measure => simp [intOf]; omega
      · obtain rfl : j = 18 := by omega
        clear hc hf hown
        go_wp2_with fail
        refine (operators_any _).mono ?_
        rintro e w2 ⟨v, rfl, hown, hB2⟩
        obtain ⟨g', cap', hg', rfl⟩ : ∃ g cap, wr.heap.size ≤ g ∧ v = .slice (some ⟨g, 0, none⟩) 18 cap := by
          rcases hown.2 with ⟨_, h0⟩ | ⟨g, cap, cur, rfl, hg, _⟩
          · omega
          · exact ⟨g, cap, hg, rfl⟩
        have c0 : w2.cell? ⟨g', 0, none⟩ = some (.int .u8 6) := by rw [hown.cellAt 0 (by omega)]; rfl
        have hBf := hBr.trans (hB2.mono hBr.size)
        clear hown
        go_wp2_with fail
        go_ret
        exact ⟨rfl, hBf⟩

theorem symbolsLaw_any (k : Nat) (hk : k ≤ 255) (w : World) (ht : TabIn w) :
    Calls Tryd.prog 3 #[.int .u8 k] w fun e w' => e = .returned (.bool true) ∧ Below w.heap.size w w' := by
  by_cases h : 4 ≤ k ∧ k ≤ 23
  · exact symbolsLaw_in k h.1 h.2 w ht
  · exact symbolsLaw_out k hk (by omega) w ht
end Go.Proofs.YtgdinmlpogpadaaDoor
