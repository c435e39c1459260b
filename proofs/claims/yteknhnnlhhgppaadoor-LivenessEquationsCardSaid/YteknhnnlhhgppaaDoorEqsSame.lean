/-
  Contract: the closure same (package ontimelaw19, LivenessEquations): a list is the list of the set that the map holds.
-/
import Derived.Test.YteknhnnlhhgppaaDoorSetMap
import Derived.Test.YteknhnnlhhgppaaDoorLiveEq
namespace Go.Proofs.YteknhnnlhhgppaaDoor
set_option linter.unusedVariables false
set_option linter.unusedSimpArgs false
open Go.RowKit Go.Maps
set_option maxRecDepth 100000
set_option maxHeartbeats 4000000

theorem zeroBool (w : World) : (zeroValue 4).run Tryd.prog w = .ok (.bool false) w := by kernel_rfl
theorem same_any (s b lb n : Nat) (va : Value) (w : World) (hm : SetMap Tryd.prog 3 4 w b n s) (hl : w.cell? ⟨lb, 0, none⟩ = some (.map (some b))) (ha : IntsAt w va (listB s)) (hs : s < 4096) :
    Calls Tryd.prog 22 #[va, .pointer (some ⟨lb, 0, none⟩)] w fun e w' => e = .returned (.bool true) ∧ Below w.heap.size w w' := by
  obtain ⟨D, hown, hD⟩ := hm
  have HOWN := Lib.hid hown
  have HD := Lib.hid hD
  have HS := Lib.hid hs
  have HSM : Hid (SetMap Tryd.prog 3 4 w b n s) := ⟨D, hown, hD⟩
  have HL := Lib.hid hl
  obtain ⟨l, hll⟩ : ∃ l, listB s = l := ⟨_, rfl⟩
  rw [hll] at ha
  have HLL := Lib.hid hll
  have hlen : l.length ≤ 12 := by rw [← hll]; exact list_len s
  obtain ⟨a, c, rfl, hla⟩ := ha
  have HLA := Lib.hid hla
  obtain ⟨m, hm⟩ : ∃ m, l.length = m := ⟨_, rfl⟩
  have HN := Lib.hid hm
  rw [hm] at hlen ⊢
  clear hown hD hl hla hll hm hs
  go_enter Tryd.func22, Tryd.ntmps22
  go_wp2_with fail
  go_loopw [11] (fun i wr => ∃ j : Nat, j ≤ m ∧ i = .int .i64 (j : Int) ∧ ∃ k, wr = World.drewN w k) (fun i _ => m - (intOf i).toNat)
  case atStart => exact ⟨0, Nat.zero_le _, rfl, 0, rfl⟩
  case round =>
    obtain ⟨j, hj, rfl, k, hk⟩ := hrel
    have HK := Lib.hid hk
    have HB : Hid (Below w.heap.size w wr) := by show Below _ _ _; rw [hk]; exact ⟨rfl, rfl, rfl, Nat.le_refl _, fun _ _ => rfl⟩
    have hj0 : (0 : Int) ≤ (j : Int) := by omega
    have c0 := cell_below HB.out HL.out
    clear hk
    by_cases hlt : j < m
    · have hlt2 : (j : Int) < (m : Int) := by omega
      obtain ⟨x, hx⟩ : ∃ x, l[j]? = some x := ⟨_, List.getElem?_eq_getElem (by rw [HN.out]; exact hlt)⟩
      rcases HLA.out with h0 | ⟨eb, eo, rfl, _, hc⟩
      · have := HN.out; omega
      have c1 := cell_below HB.out (hc j x hx)
      have hxm : x ∈ listB s := by rw [HLL.out]; exact List.mem_of_getElem? hx
      obtain ⟨r, rfl⟩ := Int.eq_ofNat_of_zero_le (list_in (R := 12) HS.out hxm).1
      have hr12 : r < 12 := by have := (list_in (R := 12) HS.out hxm).2; omega
      have hbit : s.testBit r = true := (mem_list HS.out).1 hxm
      have hrun := (HSM.out.below HB.out).run (t := 48) Tryd.underlying3 Tryd.underlying48 Tryd.underlying4 (zeroBool wr) hr12
      rw [hbit] at hrun
      have HX := Lib.hid hx
      rcases Nat.eq_zero_or_pos j with rfl | hpos
      · clear hc hx hxm hbit
        rw [Nat.add_zero] at c1
        go_wp2_with fail
        refine ⟨⟨1, by omega, by go_num, ?_⟩, by simp [intOf]; omega⟩
        rw [HK.out]
        exact ⟨_, rfl⟩
      · obtain ⟨i, rfl⟩ : ∃ i, j = i + 1 := ⟨j - 1, by omega⟩
        obtain ⟨y, hy⟩ : ∃ y, l[i]? = some y := ⟨_, List.getElem?_eq_getElem (by rw [HN.out]; omega)⟩
        have c2 := cell_below HB.out (hc i y hy)
        have hyx : y < (r : Int) := by
          have h9 := list_rises s
          rw [HLL.out] at h9
          obtain ⟨h1, e1⟩ := List.getElem?_eq_some_iff.1 hy
          obtain ⟨h2, e2⟩ := List.getElem?_eq_some_iff.1 hx
          have := List.pairwise_iff_getElem.1 h9 i (i + 1) h1 h2 (by omega)
          rw [e1, e2] at this
          exact this
        have hge : decide ((r : Int) ≤ y) = false := by simp; omega
        have hi0 : (0 : Int) ≤ (i : Int) := by omega
        have him : (i : Int) < (m : Int) := by omega
        have hi1 : (0 : Int) < (i : Int) + 1 := by omega
        clear hc hx hy hxm hbit
        go_wp2_with fail
        refine ⟨⟨i + 1 + 1, by omega, by go_num, ?_⟩, by simp [intOf]; omega⟩
        rw [HK.out]
        exact ⟨_, rfl⟩
    · obtain rfl : m = j := by omega
      have HO2 := Lib.hid ((HOWN.out.kept (w' := wr) (row := none) (by rw [HK.out]; exact ⟨rfl, rfl, rfl, Nat.le_refl _, fun _ _ _ => rfl⟩) (by simp)))
      go_wp2_with (first
        | (at_range; refine wpList_range_own _ rfl _ 48 rfl 3 4 (int_keyed Tryd.underlying3) Tryd.underlying48 _ b n D rfl HO2.out ?_; intro w0 hrg0 hg0 hs0)
        | go_in)
      go_frame
      have HBW0 : Hid (Below w.heap.size w w0) := by
        have h9 : w.heap.size ≤ wr.heap.size := HB.out.size
        exact HB.out.grown (hg0.but none) h9 (fun k hk => by cases hk)
      clear hg0
      have HRG0 := Lib.hid hrg0
      clear hrg0
      obtain ⟨wo, rfl⟩ : ∃ wo : World, wo = wr := ⟨_, rfl⟩
      go_loopw [4] (fun mv wq => ∃ (cM : Nat) (left : Lit → Bool) (cnt : Nat), mv = .int .i64 (cM : Int) ∧ wq.ranges Tryd.prog 3 (plainElem Tryd.prog 4) b wo.heap.size n D left cnt ∧ cM + leftN left s = m ∧ Below w.heap.size w wq) (fun _ wq => wq.rangeLeft b wo.heap.size)
      case atStart =>
        refine ⟨0, _, _, rfl, HRG0.out, ?_, HBW0.out⟩
        have h9 : leftN (Maps.has D) s = (listB s).length := leftN_all fun z hz => Maps.has_true_of_atKey (y := .lit (.bool true)) fun zd => by
          rw [HD.out, (mem_inS HS.out).2 hz]
          rfl
        rw [h9, HLL.out, HN.out]
        omega
      case round =>
        clear HRG0 HBW0 hs0
        obtain ⟨cM, left, cnt, rfl, hrg, hcM, hBq⟩ := hrel
        have HBQ := Lib.hid hBq
        have HCM := Lib.hid hcM
        have hwr9 : w.heap.size ≤ wo.heap.size := HB.out.size
        have HW9 := Lib.hid hwr9
        have hc12 : cM ≤ 12 := by omega
        have hc00 : (0 : Int) ≤ (cM : Int) := by omega
        clear hBq hcM hwr9
        go_wp2_with (first
          | (at_next; refine wpList_next_set _ rfl _ rfl 3 4 Tryd.underlying3 Tryd.underlying4 b wo.heap.size n s D left cnt rfl hrg HD.out HS.out ?_ ?_)
          | go_in)
        · intro hl0
          have hcm : (cM : Int) = (m : Int) := by have := HCM.out; omega
          go_wp2_with fail
          go_ret
          exact ⟨by first | rfl | simp [hcm], HBQ.out⟩
        · intro x w1 left' cnt' hrg1 hleft hlt9 hg1 hs1 hen
          have HB1 : Hid (Below w.heap.size w w1) := HBQ.out.grown hg1 HBQ.out.size (fun k hk => by cases hk; exact HW9.out)
          have HL9 : Hid (cM + 1 + leftN left' s = m) := by show _ = _; have := HCM.out; omega
          clear hg1 hs1 hleft
          go_wp2_with fail
          go_roundw
          case rel => exact ⟨cM + 1, left', cnt', by go_num, hrg1, HL9.out, HB1.out⟩
          case measure => rw [hrg1.left_eq, hrg.left_eq]; exact hlt9
end Go.Proofs.YteknhnnlhhgppaaDoor
