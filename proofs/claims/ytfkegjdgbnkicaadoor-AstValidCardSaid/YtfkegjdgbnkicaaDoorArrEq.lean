/-
  Contracts: equal rows of arrays (slices.Equal, package ontimeref12).
-/
import Derived.Test.YtfkegjdgbnkicaaDoorSliceEq
import Derived.WalkLawsBesides
import Derived.Laws.StructEq
namespace Go.Proofs.YtfkegjdgbnkicaaDoor
open Go.RowKit
set_option maxRecDepth 100000

theorem arr_cmp (W : World) (x y : Arr) : (binOp .neq 67 (.agg #[.string x.name, .int .i64 x.len]) (.agg #[.string y.name, .int .i64 y.len])).run Tryd.prog W = .ok (.bool (!(x.name.toList == y.name.toList && x.len == y.len))) W := by
  have u3 := Tryd.underlying3
  have a3 := Tryd.isAgg3
  have z3 := Tryd.sizeOf3
  have u9 := Tryd.underlying9
  have a9 := Tryd.isAgg9
  have z9 := Tryd.sizeOf9
  have hS : Tryd.prog.underlying 67 = some (.struct (Tryd.prog.fieldsOf 67)) := by kernel_rfl
  have hp : Tryd.prog.stoodInHeld 67 = false := by kernel_rfl
  rw [run_neq_struct, show (10000 : Nat) = 9999 + 1 from rfl, run_equalIn_agg W 9999 67 _ _ hS hp]
  simp only [Program.fieldsOf, Tryd.underlying67]
  go_simp
  by_cases h1 : x.name.toList = y.name.toList <;> by_cases h2 : x.len = y.len <;> simp [h1, h2]
theorem arr_eql (W : World) (x : Arr) : (binOp .neq 67 (.agg #[.string x.name, .int .i64 x.len]) (.agg #[.string x.name, .int .i64 x.len])).run Tryd.prog W = .ok (.bool false) W := by
  rw [arr_cmp]; simp
theorem arr_neq {x y : Arr} (W : World) (h : ¬ x = y) : (binOp .neq 67 (.agg #[.string x.name, .int .i64 x.len]) (.agg #[.string y.name, .int .i64 y.len])).run Tryd.prog W = .ok (.bool true) W := by
  rw [arr_cmp]
  have : (x.name.toList == y.name.toList && x.len == y.len) = false := by
    cases hq : (x.name.toList == y.name.toList && x.len == y.len) with
    | false => rfl
    | true =>
      exfalso; apply h
      simp at hq
      obtain ⟨h1, h2⟩ := hq
      cases x; cases y
      simp only at h1 h2
      rw [bytes_eq_iff.1 h1, h2]
  rw [this]; rfl

set_option maxHeartbeats 1000000 in
theorem equalArrs_any (l m : List Arr) (w : World) (a a' : Option Addr) (c c' : Nat) (hl : ArrsAt w a l) (hm : ArrsAt w a' m) :
    Calls Tryd.prog 53 #[.slice a l.length c, .slice a' m.length c'] w fun e w' => e = .returned (.bool (eqC l m)) ∧ Below w.heap.size w w' := by
  have HL := Lib.hid hl.2
  have HM := Lib.hid hm.2
  have hll := hl.1
  have hml := hm.1
  clear hl hm
  by_cases hlen : l.length = m.length
  · have q0 : ((l.length : Int) != (m.length : Int)) = false := by simp [hlen]
    have HLEN := Lib.hid hlen
    have hle : l.length ≤ m.length := by omega
    clear hlen
    go_enter Tryd.func53, Tryd.ntmps53
    go_wp2_with fail
    go_loopw [5, 13] (fun _ i wr => ∃ j : Nat, j ≤ l.length ∧ i = .int .i64 j ∧ l.take j = m.take j ∧ Below w.heap.size w wr) (fun _ i _ => l.length - (intOf i).toNat)
    case atStart => exact ⟨0, Nat.zero_le _, rfl, rfl, Below.refl _ _⟩
    case round =>
      obtain ⟨j, hj, rfl, htk, hB⟩ := hrel
      have HTK := Lib.hid htk
      clear htk
      by_cases hlt : j < l.length
      · have hlm : j < m.length := by omega
        obtain ⟨b, off, rfl, q1, p1, _, _⟩ := HL.out j hlt
        obtain ⟨b', off', rfl, q2, p2, _, _⟩ := HM.out j hlm
        obtain ⟨s, hs⟩ : ∃ s, l.getD j Arr.none = s := ⟨_, rfl⟩
        obtain ⟨s', hs'⟩ : ∃ s, m.getD j Arr.none = s := ⟨_, rfl⟩
        rw [hs] at q1 p1
        rw [hs'] at q2 p2
        have f1 := cell_below hB q1
        have f2 := cell_below hB q2
        have f3 := cell_below hB p1
        have f4 := cell_below hB p2
        have HS := Lib.hid hs
        have HS' := Lib.hid hs'
        have hj0 : (0 : Int) ≤ (j : Int) := by omega
        have hj1 : (j : Int) < (l.length : Int) := by omega
        have hj2 : (j : Int) < (m.length : Int) := by omega
        clear hs hs' q1 q2 p1 p2
        by_cases he : s = s'
        · subst he
          have e0 : ∀ W, (binOp .neq 67 (.agg #[.string s.name, .int .i64 s.len]) (.agg #[.string s.name, .int .i64 s.len])).run Tryd.prog W = .ok (.bool false) W := fun W => arr_eql W s
          have HN := Lib.hid (take_eq_next (d := Arr.none) hlt hlm HTK.out (HS.out.trans HS'.out.symm))
          go_wp2_with fail
          go_quiet (fail)
          have hBq := below_drews hB
          go_wp2_with fail
          go_roundw
          case rel => exact ⟨j + 1, by omega, by go_num, HN.out, hBq _⟩
          case measure => simp [intOf]; omega
        · have e0 : ∀ W, (binOp .neq 67 (.agg #[.string s.name, .int .i64 s.len]) (.agg #[.string s'.name, .int .i64 s'.len])).run Tryd.prog W = .ok (.bool true) W := fun W => arr_neq W he
          have HE : Hid (eqC l m = false) := eqC_false.2 (fun e => he (by rw [← HS.out, ← HS'.out, e]))
          clear he
          go_wp2_with fail
          go_quiet (fail)
          have hBq := below_drews hB
          go_wp2_with fail
          go_ret
          exact ⟨by rw [HE.out]; rfl, hBq _⟩
      · obtain rfl : j = l.length := by omega
        have HE : Hid (eqC l m = true) := eqC_true.2 (by have := HTK.out; rw [List.take_length, HLEN.out, List.take_length] at this; exact this)
        go_wp2_with fail
        go_ret
        exact ⟨by rw [HE.out]; rfl, hB⟩
  · have q0 : ((l.length : Int) != (m.length : Int)) = true := by simp; omega
    have HE : Hid (eqC l m = false) := eqC_false.2 (fun e => hlen (by rw [e]))
    clear hlen
    go_enter Tryd.func53, Tryd.ntmps53
    go_wp2_with fail
    go_ret
    exact ⟨by rw [HE.out]; rfl, Below.refl _ _⟩
set_option maxHeartbeats 1000000 in
theorem refList_any (l m : List Arr) (w : World) (a a' : Option Addr) (c c' : Nat) (hl : ArrsAt w a l) (hm : ArrsAt w a' m) :
    Calls Tryd.prog 56 #[.slice a l.length c, .slice a' m.length c'] w fun e w' => e = .returned (.bool (eqC l m)) ∧ Below w.heap.size w w' := by
  have HL := Lib.hid hl.2
  have HM := Lib.hid hm.2
  have hll := hl.1
  have hml := hm.1
  clear hl hm
  by_cases hlen : l.length = m.length
  · have q0 : ((l.length : Int) != (m.length : Int)) = false := by simp [hlen]
    have HLEN := Lib.hid hlen
    have hle : l.length ≤ m.length := by omega
    clear hlen
    go_enter Tryd.func56, Tryd.ntmps56
    go_wp2_with fail
    go_loopw [5] (fun i wr => ∃ j : Nat, j ≤ l.length ∧ i = .int .i64 j ∧ l.take j = m.take j ∧ Below w.heap.size w wr) (fun i _ => l.length - (intOf i).toNat)
    case atStart => exact ⟨0, Nat.zero_le _, rfl, rfl, Below.refl _ _⟩
    case round =>
      obtain ⟨j, hj, rfl, htk, hB⟩ := hrel
      have HTK := Lib.hid htk
      clear htk
      by_cases hlt : j < l.length
      · have hlm : j < m.length := by omega
        obtain ⟨b, off, rfl, q1, p1, _, _⟩ := HL.out j hlt
        obtain ⟨b', off', rfl, q2, p2, _, _⟩ := HM.out j hlm
        obtain ⟨s, hs⟩ : ∃ s, l.getD j Arr.none = s := ⟨_, rfl⟩
        obtain ⟨s', hs'⟩ : ∃ s, m.getD j Arr.none = s := ⟨_, rfl⟩
        rw [hs] at q1 p1
        rw [hs'] at q2 p2
        have f1 := cell_below hB q1
        have f2 := cell_below hB q2
        have f3 := cell_below hB p1
        have f4 := cell_below hB p2
        have HS := Lib.hid hs
        have HS' := Lib.hid hs'
        have hj0 : (0 : Int) ≤ (j : Int) := by omega
        have hj1 : (j : Int) < (l.length : Int) := by omega
        have hj2 : (j : Int) < (m.length : Int) := by omega
        clear hs hs' q1 q2 p1 p2
        by_cases he : s = s'
        · subst he
          have e0 : ∀ W, (binOp .neq 67 (.agg #[.string s.name, .int .i64 s.len]) (.agg #[.string s.name, .int .i64 s.len])).run Tryd.prog W = .ok (.bool false) W := fun W => arr_eql W s
          have HN := Lib.hid (take_eq_next (d := Arr.none) hlt hlm HTK.out (HS.out.trans HS'.out.symm))
          go_wp2_with fail
          go_quiet (fail)
          have hBq := below_drews hB
          go_wp2_with fail
          go_roundw
          case rel => exact ⟨j + 1, by omega, by go_num, HN.out, hBq _⟩
          case measure => simp [intOf]; omega
        · have e0 : ∀ W, (binOp .neq 67 (.agg #[.string s.name, .int .i64 s.len]) (.agg #[.string s'.name, .int .i64 s'.len])).run Tryd.prog W = .ok (.bool true) W := fun W => arr_neq W he
          have HE : Hid (eqC l m = false) := eqC_false.2 (fun e => he (by rw [← HS.out, ← HS'.out, e]))
          clear he
          go_wp2_with fail
          go_quiet (fail)
          have hBq := below_drews hB
          go_wp2_with fail
          go_ret
          exact ⟨by rw [HE.out]; rfl, hBq _⟩
      · obtain rfl : j = l.length := by omega
        have HE : Hid (eqC l m = true) := eqC_true.2 (by have := HTK.out; rw [List.take_length, HLEN.out, List.take_length] at this; exact this)
        go_wp2_with fail
        go_ret
        exact ⟨by rw [HE.out]; rfl, hB⟩
  · have q0 : ((l.length : Int) != (m.length : Int)) = true := by simp; omega
    have HE : Hid (eqC l m = false) := eqC_false.2 (fun e => hlen (by rw [e]))
    clear hlen
    go_enter Tryd.func56, Tryd.ntmps56
    go_wp2_with fail
    go_ret
    exact ⟨by rw [HE.out]; rfl, Below.refl _ _⟩
end Go.Proofs.YtfkegjdgbnkicaaDoor
