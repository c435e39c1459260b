/-
  Mg29: several texts in one (LiveForm19, LivePt).
-/
import Derived.Test.YteknhnnlhhgppaaDoorLiveRef
/-
  Contracts: form (package ontimelaw19); slices.Index, slices.Contains of ints.
-/
namespace Go.Proofs.YteknhnnlhhgppaaDoor
set_option linter.unusedVariables false
set_option linter.unusedSimpArgs false
open Go.RowKit
set_option maxRecDepth 100000
set_option maxHeartbeats 16000000

theorem small_fits {f : Fn} (h : SmallF f) : f.blocks.length ≤ 1000 ∧ ∀ b ∈ f.blocks, b.code.length ≤ 1000000 := ⟨by have := h.bl; omega, fun b hb => by have := h.cd b hb; omega⟩
theorem formLaw_any (f : Fn) (aa ba : Option Addr) (ac bc : Nat) (w : World) (hf : FnAt w f aa ba) :
    Calls Tryd.prog 20 #[fnVal f.name f.regs aa f.arrays.length ac ba f.blocks.length bc] w (Tells (SmallF f ∧ FormF f) w) := by
  have HF := Lib.hid hf
  obtain ⟨n, hn⟩ : ∃ n, f.blocks.length = n := ⟨_, rfl⟩
  have HN := Lib.hid hn
  obtain ⟨W, hW⟩ : ∃ W : World, w.alloc (.cells #[.string f.name, .int .i64 f.regs, .slice aa f.arrays.length ac, .slice ba n bc] 25) = W := ⟨_, rfl⟩
  have hWs : W.heap.size = w.heap.size + 1 := by rw [← hW]; simp
  have HBW : Hid (Below w.heap.size w W) := by show Below _ _ _; rw [← hW]; exact (Below.refl _ _).alloc (Nat.le_refl _) _
  have HX : Hid (W.heap[w.heap.size]? = some (.cells #[.string f.name, .int .i64 f.regs, .slice aa f.arrays.length ac, .slice ba n bc] 25)) := by
    show _ = _
    rw [← hW]
    exact (MapKept.heap_alloc w _).1
  have HXC : Hid (∀ w', Below W.heap.size W w' → w'.cell? ⟨w.heap.size, 0, none⟩ = some (.string f.name) ∧ w'.cell? ⟨w.heap.size, 1, none⟩ = some (.int .i64 f.regs) ∧ w'.cell? ⟨w.heap.size, 2, none⟩ = some (.slice aa f.arrays.length ac) ∧ w'.cell? ⟨w.heap.size, 3, none⟩ = some (.slice ba n bc)) := fun w' h => by
    have h9 := (h.block _ (show w.heap.size < W.heap.size by omega)).trans HX.out
    exact ⟨cell_heap h9 0, cell_heap h9 1, cell_heap h9 2, cell_heap h9 3⟩
  obtain ⟨x0, x1, x2, x3⟩ := HXC.out W (Below.refl _ _)
  have QS : Hid (∀ w', Below w.heap.size w w' → Calls Tryd.prog 11 #[.agg #[.string f.name, .int .i64 f.regs, .slice aa f.arrays.length ac, .slice ba n bc]] w' (Tells (SmallF f) w')) := fun w' h => by
    have h9 := small_any f aa ba ac bc w' (HF.out.below h)
    rw [HN.out] at h9
    exact h9
  rw [hn]
  clear hf hn hWs
  go_enter Tryd.func20, Tryd.ntmps20
  go_wp2_with fail
  clear hW x0 x1 x2 x3
  refine (QS.out _ HBW.out).mono ?_
  rintro e w1 ⟨r, rfl, hr, hB⟩
  have HR := Lib.hid hr
  have HB1 : Hid (Below W.heap.size W w1) := hB
  have HBF : Hid (Below w.heap.size w w1) := below_step HBW.out hB
  clear hr hB
  cases r with
  | false =>
    go_wp2_with fail
    go_ret
    exact ⟨false, rfl, ⟨fun h => by simp at h, fun h => by have := HR.out.2 h.1; simp at this⟩, HBF.out⟩
  | true =>
    have HS := Lib.hid (HR.out.1 rfl)
    obtain ⟨x0, x1, x2, x3⟩ := HXC.out w1 HB1.out
    have hfit := small_fits HS.out
    have HFIT := Lib.hid hfit
    have QP : Hid (∀ w', Below w.heap.size w w' → Calls Tryd.prog 13 #[.agg #[.string f.name, .int .i64 f.regs, .slice aa f.arrays.length ac, .slice ba n bc]] w' (fun e w'' => ∃ ba' bc', e = .returned (fnVal f.name f.regs aa f.arrays.length ac ba' n bc') ∧ FnAt w'' f aa ba' ∧ Below w'.heap.size w' w'')) := fun w' h => by
      have h9 := plain_any f aa ba ac bc w' (HF.out.below h) (by have := HFIT.out.1; omega) HFIT.out.2
      rw [HN.out] at h9
      exact h9
    clear hfit
    go_wp2_with fail
    clear x0 x1 x2 x3
    refine (QP.out _ HBF.out).mono ?_
    rintro e w2 ⟨ba', bc', rfl, hf2, hB2⟩
    have QF : Hid (Calls Tryd.prog 14 #[fnVal f.name f.regs aa f.arrays.length ac ba' n bc'] w2 (Tells (FormF f) w2)) := by
      have h9 := form_any f aa ba' ac bc' w2 hf2 HFIT.out.1 HFIT.out.2
      rw [HN.out] at h9
      exact h9
    have HB2 : Hid (Below w.heap.size w w2) := below_step HBF.out hB2
    clear hf2 hB2
    go_wp2_with fail
    refine QF.out.mono ?_
    rintro e w3 ⟨r3, rfl, hr3, hB3⟩
    have HR3 := Lib.hid hr3
    have HB3 : Hid (Below w.heap.size w w3) := below_step HB2.out hB3
    clear hr3 hB3
    go_wp2_with fail
    go_ret
    exact ⟨r3, rfl, ⟨fun h => ⟨HS.out, HR3.out.1 h⟩, fun h => HR3.out.2 h.2⟩, HB3.out⟩
/-- where x stands first, or -1 -/
theorem index_any (l : List Int) (x : Int) (va : Value) (w : World) (ha : IntsAt w va l) (hl : l.length ≤ 1000000) :
    Calls Tryd.prog 51 #[va, .int .i64 x] w fun e w' => (∃ k : Int, e = .returned (.int .i64 k) ∧ (0 ≤ k ↔ x ∈ l) ∧ -1 ≤ k ∧ k ≤ 1000000) ∧ ∃ m, w' = World.drewN w m := by
  obtain ⟨a, c, rfl, hla⟩ := ha
  have HLA := Lib.hid hla
  clear hla
  obtain ⟨n, hn⟩ : ∃ n, l.length = n := ⟨_, rfl⟩
  have HN := Lib.hid hn
  rw [hn] at hl ⊢
  clear hn
  go_enter Tryd.func51, Tryd.ntmps51
  go_wp2_with fail
  go_loopw [8] (fun i wr => ∃ j : Nat, j ≤ n ∧ i = .int .i64 (j : Int) ∧ x ∉ l.take j ∧ wr = w) (fun i _ => n - (intOf i).toNat)
  case atStart => exact ⟨0, Nat.zero_le _, rfl, by simp, rfl⟩
  case round =>
    obtain ⟨j, hj, rfl, htk, rfl⟩ := hrel
    have HTK := Lib.hid htk
    have hj0 : (0 : Int) ≤ (j : Int) := by omega
    clear htk
    by_cases hlt : j < n
    · have hlt2 : (j : Int) < (n : Int) := by omega
      obtain ⟨y, hy⟩ : ∃ y, l[j]? = some y := ⟨_, List.getElem?_eq_getElem (by rw [HN.out]; exact hlt)⟩
      have HY := Lib.hid hy
      rcases HLA.out with h0 | ⟨lb, lo, rfl, _, hc⟩
      · have := HN.out; omega
      have c1 := hc j y hy
      clear hc hy
      by_cases hxy : x = y
      · have e2 : (x == y) = true := by simp [hxy]
        have HIN : Hid (x ∈ l) := by show _ ∈ _; rw [hxy]; exact List.mem_of_getElem? HY.out
        clear hxy
        go_wp2_with fail
        go_ret
        exact ⟨⟨(j : Int), rfl, ⟨fun _ => HIN.out, fun _ => hj0⟩, by omega, by omega⟩, 0, rfl⟩
      · have e2 : (x == y) = false := by simp [hxy]
        have HNX : Hid (x ∉ l.take (j + 1)) := by
          show _ ∉ _
          rw [take_snoc HY.out]
          simp [hxy]
          exact HTK.out
        clear hxy
        go_wp2_with fail
        exact ⟨⟨j + 1, by omega, by go_num, HNX.out, trivial⟩, by simp [intOf]; omega⟩
    · obtain rfl : n = j := by omega
      have HNI : Hid (x ∉ l) := by have := HTK.out; rwa [List.take_of_length_le (by rw [HN.out]; exact Nat.le_refl _)] at this
      go_wp2_with fail
      go_ret
      exact ⟨⟨-1, rfl, ⟨fun h => absurd h (by decide), fun h => absurd h HNI.out⟩, by omega, by omega⟩, 0, rfl⟩
theorem contains_any' (l : List Int) (x : Int) (va : Value) (w : World) (ha : IntsAt w va l) (hl : l.length ≤ 1000000) :
    Calls Tryd.prog 26 #[va, .int .i64 x] w fun e w' => e = .returned (.bool (decide (x ∈ l))) ∧ ∃ m, w' = World.drewN w m := by
  have HA := Lib.hid ha
  obtain ⟨a, c, rfl, _⟩ := ha
  obtain ⟨n, hn⟩ : ∃ n, l.length = n := ⟨_, rfl⟩
  have HN := Lib.hid hn
  rw [hn] at HA hl ⊢
  clear hn
  go_enter Tryd.func26, Tryd.ntmps26
  go_wp2_with fail
  refine (index_any l x _ _ HA.out (by rw [HN.out]; exact hl)).mono ?_
  rintro e w1 ⟨⟨k, rfl, hk, hk1, hk2⟩, m, hm⟩
  have HM := Lib.hid hm
  by_cases h0 : 0 ≤ k
  · have hd : decide (x ∈ l) = true := by simpa using hk.1 h0
    have HD := Lib.hid hd
    clear hd hk hm
    go_wp2_with fail
    go_ret
    exact ⟨by rw [HD.out]; rfl, m, HM.out⟩
  · have hd : decide (x ∈ l) = false := by simpa using fun h => h0 (hk.2 h)
    have HD := Lib.hid hd
    have h0d : decide (0 ≤ k) = false := by simpa using h0
    clear hd hk hm
    go_wp2_with fail
    go_ret
    exact ⟨by rw [HD.out]; simp [h0d], m, HM.out⟩
end Go.Proofs.YteknhnnlhhgppaaDoor

/-
  Contracts: uses, defines, reaches (package ontimeref19).
-/
namespace Go.Proofs.YteknhnnlhhgppaaDoor
set_option linter.unusedVariables false
set_option linter.unusedSimpArgs false
open Go.RowKit
set_option maxRecDepth 100000
set_option maxHeartbeats 16000000

/-- a use at a point of a block -/
def UseAt (b : Blk) (at_ r : Nat) : Prop := if at_ = b.code.length then b.kind = 2 ∧ b.x = (r : Int) else ∃ i, b.code[at_]? = some i ∧ (r : Int) ∈ i.uses
def DefAt (b : Blk) (at_ r : Nat) : Prop := ∃ i, b.code[at_]? = some i ∧ i.defines = some (r : Int)
theorem uses19_any (f : Fn) (aa ba : Option Addr) (ac bc k at_ r : Nat) (b : Blk) (w : World) (hf : FnAt w f aa ba) (hn : f.blocks.length ≤ 1000) (hb : f.blocks[k]? = some b) (hc : b.code.length ≤ 1000000) (hat : at_ ≤ b.code.length) :
    Calls Tryd.prog 87 #[fnVal f.name f.regs aa f.arrays.length ac ba f.blocks.length bc, .int .i64 (k : Int), .int .i64 (at_ : Int), .int .i64 (r : Int)] w (Tells (UseAt b at_ r) w) := by
  have HF := Lib.hid hf
  have HB := Lib.hid hb
  obtain ⟨n, hnn⟩ : ∃ n, f.blocks.length = n := ⟨_, rfl⟩
  have hkn : k < n := by have := (List.getElem?_eq_some_iff.1 hb).1; omega
  obtain ⟨W, hW⟩ : ∃ W : World, w.alloc (.cells #[.string f.name, .int .i64 f.regs, .slice aa f.arrays.length ac, .slice ba n bc] 36) = W := ⟨_, rfl⟩
  have hWs : W.heap.size = w.heap.size + 1 := by rw [← hW]; simp
  have HBW : Hid (Below w.heap.size w W) := by show Below _ _ _; rw [← hW]; exact (Below.refl _ _).alloc (Nat.le_refl _) _
  have HX : Hid (W.heap[w.heap.size]? = some (.cells #[.string f.name, .int .i64 f.regs, .slice aa f.arrays.length ac, .slice ba n bc] 36)) := by
    show _ = _
    rw [← hW]
    exact (MapKept.heap_alloc w _).1
  have x3 : W.cell? ⟨w.heap.size, 3, none⟩ = some (.slice ba n bc) := cell_heap HX.out 3
  rcases hf.blocks.at_ with hz | ⟨bb, off, rfl, hk⟩
  · omega
  obtain ⟨ca, cc, hba, hcode⟩ := hk k b hb
  obtain ⟨c0, c1, c2, c3, c4⟩ := hba.below HBW.out
  have HCODE := Lib.hid hcode
  obtain ⟨V1, hV1⟩ : ∃ V1 : World, W.alloc (.cells #[.slice ca b.code.length cc, .int .u8 b.kind, .int .i64 b.x, .int .i64 b.to, .int .i64 b.els] 90) = V1 := ⟨_, rfl⟩
  have HBV1 : Hid (Below W.heap.size W V1) := by show Below _ _ _; rw [← hV1]; exact (Below.refl _ _).alloc (Nat.le_refl _) _
  have HZ1 : Hid (V1.heap[W.heap.size]? = some (.cells #[.slice ca b.code.length cc, .int .u8 b.kind, .int .i64 b.x, .int .i64 b.to, .int .i64 b.els] 90)) := by
    show _ = _
    rw [← hV1]
    exact (MapKept.heap_alloc W _).1
  have HBF : Hid (Below w.heap.size w V1) := below_step HBW.out HBV1.out
  obtain ⟨d0, d1, d2, d3, d4⟩ := five_cells HZ1.out
  have hk0 : (0 : Int) ≤ (k : Int) := by omega
  have hk1 : (k : Int) < (n : Int) := by omega
  rw [hnn]
  by_cases hend : at_ = b.code.length
  · subst hend
    have HP : Hid (UseAt b b.code.length r ↔ b.kind = 2 ∧ b.x = (r : Int)) := by show _ ↔ _; unfold UseAt; rw [if_pos rfl]
    by_cases hk2 : b.kind = 2
    · have hk2d : (b.kind == 2) = true := by simpa using hk2
      have HK2 := Lib.hid hk2
      by_cases hx : b.x = (r : Int)
      · have hxd : (b.x == (r : Int)) = true := by simpa using hx
        have HXX := Lib.hid hx
        clear hf hb hk hba hcode hk2 hx hnn hWs
        go_enter Tryd.func87, Tryd.ntmps87
        go_wp2_with fail
        go_ret
        exact ⟨true, rfl, ⟨fun _ => HP.out.2 ⟨HK2.out, HXX.out⟩, fun _ => rfl⟩, HBF.out⟩
      · have hxd : (b.x == (r : Int)) = false := by simpa using hx
        have HXX := Lib.hid hx
        clear hf hb hk hba hcode hk2 hx hnn hWs
        go_enter Tryd.func87, Tryd.ntmps87
        go_wp2_with fail
        go_ret
        exact ⟨false, rfl, ⟨fun h => by simp at h, fun h => absurd (HP.out.1 h).2 HXX.out⟩, HBF.out⟩
    · have hk2d : (b.kind == 2) = false := by simpa using hk2
      have HK2 := Lib.hid hk2
      clear hf hb hk hba hcode hk2 hnn hWs
      go_enter Tryd.func87, Tryd.ntmps87
      go_wp2_with fail
      go_ret
      exact ⟨false, rfl, ⟨fun h => by simp at h, fun h => absurd (HP.out.1 h).1 HK2.out⟩, HBF.out⟩
  · have hlt : at_ < b.code.length := by omega
    have hed : ((at_ : Int) == (b.code.length : Int)) = false := by simp; omega
    obtain ⟨q, hq⟩ : ∃ q, b.code[at_]? = some q := ⟨_, List.getElem?_eq_getElem hlt⟩
    have HP : Hid (UseAt b at_ r ↔ (r : Int) ∈ q.uses) := by
      show _ ↔ _
      unfold UseAt
      rw [if_neg hend]
      exact ⟨fun ⟨i, hi, h⟩ => by rw [hq] at hi; obtain rfl := Option.some.inj hi; exact h, fun h => ⟨q, hq, h⟩⟩
    rcases hcode.at_ with hz | ⟨cb, co, rfl, hcc⟩
    · omega
    obtain ⟨g0, g1, g2, g3, g4, g5⟩ := (hcc at_ q hq).below HBF.out
    have HQWF := Lib.hid (hcode.wf q (List.mem_of_getElem? hq))
    have ha0 : (0 : Int) ≤ (at_ : Int) := by omega
    have ha1 : (at_ : Int) < (b.code.length : Int) := by omega
    clear hf hb hk hba hcode hnn hWs hcc hq hend
    go_enter Tryd.func87, Tryd.ntmps87
    go_wp2_with fail
    clear hW hV1 x3 c0 c1 c2 c3 c4 d0 d1 d2 d3 d4 g0 g1 g2 g3 g4 g5
    refine (refUses_any q _ HQWF.out.op0 HQWF.out.op1).mono ?_
    rintro e w3 ⟨uv, rfl, hU, hB3⟩
    have HB3 : Hid (Below w.heap.size w w3) := below_step HBF.out hB3
    have hul := uses_two q
    obtain ⟨ua, uc, rfl, hla⟩ := hU.at_
    have HLA := Lib.hid hla
    obtain ⟨un, hun⟩ : ∃ m, q.uses.length = m := ⟨_, rfl⟩
    have HUN := Lib.hid hun
    rw [hun] at hul HLA ⊢
    clear hU hB3 hla hun
    go_wp2_with fail
    go_loopw [11] (fun i wr => ∃ j : Nat, j ≤ un ∧ i = .int .i64 (j : Int) ∧ (r : Int) ∉ q.uses.take j ∧ wr = w3) (fun i _ => un - (intOf i).toNat)
    case atStart => exact ⟨0, Nat.zero_le _, rfl, by simp, rfl⟩
    case round =>
      obtain ⟨j, hj, rfl, htk, rfl⟩ := hrel
      have HTK := Lib.hid htk
      have hj0 : (0 : Int) ≤ (j : Int) := by omega
      clear htk
      by_cases hju : j < un
      · have hju2 : (j : Int) < (un : Int) := by omega
        obtain ⟨y, hy⟩ : ∃ y, q.uses[j]? = some y := ⟨_, List.getElem?_eq_getElem (by rw [HUN.out]; exact hju)⟩
        have HY := Lib.hid hy
        rcases HLA.out with h0 | ⟨lb, lo, rfl, _, hcl⟩
        · omega
        have c1 := hcl j y hy
        clear hcl hy
        by_cases hxy : y = (r : Int)
        · have e2 : (y == (r : Int)) = true := by simpa using hxy
          have HIN : Hid ((r : Int) ∈ q.uses) := by show _ ∈ _; rw [← hxy]; exact List.mem_of_getElem? HY.out
          clear hxy
          go_wp2_with fail
          go_ret
          exact ⟨true, rfl, ⟨fun _ => HP.out.2 HIN.out, fun _ => rfl⟩, HB3.out⟩
        · have e2 : (y == (r : Int)) = false := by simpa using hxy
          have HNX : Hid ((r : Int) ∉ q.uses.take (j + 1)) := by
            show _ ∉ _
            rw [take_snoc HY.out]
            simp [Ne.symm hxy]
            exact HTK.out
          clear hxy
          go_wp2_with fail
          exact ⟨⟨j + 1, by omega, by go_num, HNX.out, trivial⟩, by simp [intOf]; omega⟩
      · obtain rfl : un = j := by omega
        have HNI : Hid ((r : Int) ∉ q.uses) := by have := HTK.out; rwa [List.take_of_length_le (by rw [HUN.out]; exact Nat.le_refl _)] at this
        go_wp2_with fail
        go_ret
        exact ⟨false, rfl, ⟨fun h => by simp at h, fun h => absurd (HP.out.1 h) HNI.out⟩, HB3.out⟩
theorem defines19_any (f : Fn) (aa ba : Option Addr) (ac bc k at_ r : Nat) (b : Blk) (w : World) (hf : FnAt w f aa ba) (hn : f.blocks.length ≤ 1000) (hb : f.blocks[k]? = some b) (hc : b.code.length ≤ 1000000) (hat : at_ ≤ b.code.length) :
    Calls Tryd.prog 72 #[fnVal f.name f.regs aa f.arrays.length ac ba f.blocks.length bc, .int .i64 (k : Int), .int .i64 (at_ : Int), .int .i64 (r : Int)] w (Tells (DefAt b at_ r) w) := by
  have HF := Lib.hid hf
  have HB := Lib.hid hb
  obtain ⟨n, hnn⟩ : ∃ n, f.blocks.length = n := ⟨_, rfl⟩
  have hkn : k < n := by have := (List.getElem?_eq_some_iff.1 hb).1; omega
  obtain ⟨W, hW⟩ : ∃ W : World, w.alloc (.cells #[.string f.name, .int .i64 f.regs, .slice aa f.arrays.length ac, .slice ba n bc] 36) = W := ⟨_, rfl⟩
  have HBW : Hid (Below w.heap.size w W) := by show Below _ _ _; rw [← hW]; exact (Below.refl _ _).alloc (Nat.le_refl _) _
  have HX : Hid (W.heap[w.heap.size]? = some (.cells #[.string f.name, .int .i64 f.regs, .slice aa f.arrays.length ac, .slice ba n bc] 36)) := by
    show _ = _
    rw [← hW]
    exact (MapKept.heap_alloc w _).1
  have x3 : W.cell? ⟨w.heap.size, 3, none⟩ = some (.slice ba n bc) := cell_heap HX.out 3
  rcases hf.blocks.at_ with hz | ⟨bb, off, rfl, hk⟩
  · omega
  obtain ⟨ca, cc, hba, hcode⟩ := hk k b hb
  obtain ⟨c0, c1, c2, c3, c4⟩ := hba.below HBW.out
  obtain ⟨V1, hV1⟩ : ∃ V1 : World, W.alloc (.cells #[.slice ca b.code.length cc, .int .u8 b.kind, .int .i64 b.x, .int .i64 b.to, .int .i64 b.els] 90) = V1 := ⟨_, rfl⟩
  have HBV1 : Hid (Below W.heap.size W V1) := by show Below _ _ _; rw [← hV1]; exact (Below.refl _ _).alloc (Nat.le_refl _) _
  have HZ1 : Hid (V1.heap[W.heap.size]? = some (.cells #[.slice ca b.code.length cc, .int .u8 b.kind, .int .i64 b.x, .int .i64 b.to, .int .i64 b.els] 90)) := by
    show _ = _
    rw [← hV1]
    exact (MapKept.heap_alloc W _).1
  have HBF : Hid (Below w.heap.size w V1) := below_step HBW.out HBV1.out
  obtain ⟨d0, d1, d2, d3, d4⟩ := five_cells HZ1.out
  have hk0 : (0 : Int) ≤ (k : Int) := by omega
  have hk1 : (k : Int) < (n : Int) := by omega
  rw [hnn]
  by_cases hend : at_ = b.code.length
  · subst hend
    have HNO : Hid (¬ DefAt b b.code.length r) := fun ⟨i, hi, _⟩ => by have := (List.getElem?_eq_some_iff.1 hi).1; omega
    clear hf hb hk hba hcode hnn
    go_enter Tryd.func72, Tryd.ntmps72
    go_wp2_with fail
    go_ret
    exact ⟨false, rfl, ⟨fun h => by simp at h, fun h => absurd h HNO.out⟩, HBF.out⟩
  · have hlt : at_ < b.code.length := by omega
    have hed : ((at_ : Int) == (b.code.length : Int)) = false := by simp; omega
    obtain ⟨q, hq⟩ : ∃ q, b.code[at_]? = some q := ⟨_, List.getElem?_eq_getElem hlt⟩
    have HP : Hid (DefAt b at_ r ↔ q.defines = some (r : Int)) := ⟨fun ⟨i, hi, h⟩ => by rw [hq] at hi; obtain rfl := Option.some.inj hi; exact h, fun h => ⟨q, hq, h⟩⟩
    rcases hcode.at_ with hz | ⟨cb, co, rfl, hcc⟩
    · omega
    obtain ⟨g0, g1, g2, g3, g4, g5⟩ := (hcc at_ q hq).below HBF.out
    have HQWF := Lib.hid (hcode.wf q (List.mem_of_getElem? hq))
    have ha0 : (0 : Int) ≤ (at_ : Int) := by omega
    have ha1 : (at_ : Int) < (b.code.length : Int) := by omega
    clear hf hb hk hba hcode hnn hcc hq hend
    go_enter Tryd.func72, Tryd.ntmps72
    go_wp2_with fail
    clear hW hV1 x3 c0 c1 c2 c3 c4 d0 d1 d2 d3 d4 g0 g1 g2 g3 g4 g5
    refine (refDefines_any q _ HQWF.out.op0 HQWF.out.op1).mono ?_
    unfold DefOk
    rintro e w3 ⟨rfl, hB3⟩
    have HB3 : Hid (Below w.heap.size w w3) := below_step HBF.out hB3
    obtain ⟨K, hK⟩ : ∃ K : Option Int, q.defines = K := ⟨_, rfl⟩
    rw [hK]
    have HD := Lib.hid hK
    clear hB3 hK
    cases K with
    | none =>
      simp only [Option.getD_none, Option.isSome_none]
      go_wp2_with fail
      go_ret
      exact ⟨false, rfl, ⟨fun h => by simp at h, fun h => by have := HP.out.1 h; rw [HD.out] at this; cases this⟩, HB3.out⟩
    | some d =>
      simp only [Option.getD_some, Option.isSome_some]
      by_cases hd : d = (r : Int)
      · have e2 : (d == (r : Int)) = true := by simpa using hd
        have HE := Lib.hid hd
        clear hd
        go_wp2_with fail
        go_ret
        exact ⟨true, rfl, ⟨fun _ => HP.out.2 (by rw [HD.out, HE.out]), fun _ => rfl⟩, HB3.out⟩
      · have e2 : (d == (r : Int)) = false := by simpa using hd
        have HE := Lib.hid hd
        clear hd
        go_wp2_with fail
        go_ret
        exact ⟨false, rfl, ⟨fun h => by simp at h, fun h => by have := HP.out.1 h; rw [HD.out] at this; exact absurd (Option.some.inj this) HE.out⟩, HB3.out⟩
end Go.Proofs.YteknhnnlhhgppaaDoor
