/-
  Contracts: uses, defines, reaches (package ontimeref19).
-/
import Derived.Test.YteknhnnlhhgppaaDoorLiveForm19
namespace Go.Proofs.YteknhnnlhhgppaaDoor
set_option linter.unusedVariables false
set_option linter.unusedSimpArgs false
open Go.RowKit
set_option maxRecDepth 100000
set_option maxHeartbeats 16000000

/-- a use at a point of a block -/
def UseAt (b : Blk) (at_ r : Nat) : Prop := if at_ = b.code.length then b.kind = 2 ∧ b.x = (r : Int) else ∃ i, b.code[at_]? = some i ∧ (r : Int) ∈ i.uses
def DefAt (b : Blk) (at_ r : Nat) : Prop := ∃ i, b.code[at_]? = some i ∧ i.defines = some (r : Int)
theorem uses19_any (f : Fn) (aa ba : Option Addr) (ac bc k at_ r : Nat) (b : Blk) (w : World) (hf : FnAt w f aa ba) (hn : f.blocks.length ≤ 1000) (hb : f.blocks[k]? = some b) (hc : b.code.length ≤ 1000000) (hat : at_ ≤ b.code.length) :
    Calls Tryd.prog 87 #[fnVal f.name f.regs aa f.arrays.length ac ba f.blocks.length bc, .int .i64 (k : Int), .int .i64 (at_ : Int), .int .i64 (r : Int)] w (Tells (UseAt b at_ r) w) := by
  have HF := Lib.hid hf
  have HB := Lib.hid hb
  obtain ⟨n, hnn⟩ : ∃ n, f.blocks.length = n := ⟨_, rfl⟩
  have hkn : k < n := by have := (List.getElem?_eq_some_iff.1 hb).1; omega
  obtain ⟨W, hW⟩ : ∃ W : World, w.alloc (.cells #[.string f.name, .int .i64 f.regs, .slice aa f.arrays.length ac, .slice ba n bc] 36) = W := ⟨_, rfl⟩
  have hWs : W.heap.size = w.heap.size + 1 := by rw [← hW]; simp
  have HBW : Hid (Below w.heap.size w W) := by show Below _ _ _; rw [← hW]; exact (Below.refl _ _).alloc (Nat.le_refl _) _
  have HX : Hid (W.heap[w.heap.size]? = some (.cells #[.string f.name, .int .i64 f.regs, .slice aa f.arrays.length ac, .slice ba n bc] 36)) := by
    show _ = _
    rw [← hW]
    exact (MapKept.heap_alloc w _).1
  have x3 : W.cell? ⟨w.heap.size, 3, none⟩ = some (.slice ba n bc) := cell_heap HX.out 3
  rcases hf.blocks.at_ with hz | ⟨bb, off, rfl, hk⟩
  · omega
  obtain ⟨ca, cc, hba, hcode⟩ := hk k b hb
  obtain ⟨c0, c1, c2, c3, c4⟩ := hba.below HBW.out
  have HCODE := Lib.hid hcode
  obtain ⟨V1, hV1⟩ : ∃ V1 : World, W.alloc (.cells #[.slice ca b.code.length cc, .int .u8 b.kind, .int .i64 b.x, .int .i64 b.to, .int .i64 b.els] 90) = V1 := ⟨_, rfl⟩
  have HBV1 : Hid (Below W.heap.size W V1) := by show Below _ _ _; rw [← hV1]; exact (Below.refl _ _).alloc (Nat.le_refl _) _
  have HZ1 : Hid (V1.heap[W.heap.size]? = some (.cells #[.slice ca b.code.length cc, .int .u8 b.kind, .int .i64 b.x, .int .i64 b.to, .int .i64 b.els] 90)) := by
    show _ = _
    rw [← hV1]
    exact (MapKept.heap_alloc W _).1
  have HBF : Hid (Below w.heap.size w V1) := below_step HBW.out HBV1.out
  obtain ⟨d0, d1, d2, d3, d4⟩ := five_cells HZ1.out
  have hk0 : (0 : Int) ≤ (k : Int) := by omega
  have hk1 : (k : Int) < (n : Int) := by omega
  rw [hnn]
  by_cases hend : at_ = b.code.length
  · subst hend
    have HP : Hid (UseAt b b.code.length r ↔ b.kind = 2 ∧ b.x = (r : Int)) := by show _ ↔ _; unfold UseAt; rw [if_pos rfl]
    by_cases hk2 : b.kind = 2
    · have hk2d : (b.kind == 2) = true := by simpa using hk2
      have HK2 := Lib.hid hk2
      by_cases hx : b.x = (r : Int)
      · have hxd : (b.x == (r : Int)) = true := by simpa using hx
        have HXX := Lib.hid hx
        clear hf hb hk hba hcode hk2 hx hnn hWs
        go_enter Tryd.func87, Tryd.ntmps87
        go_wp2_with fail
        go_ret
        exact ⟨true, rfl, ⟨fun _ => HP.out.2 ⟨HK2.out, HXX.out⟩, fun _ => rfl⟩, HBF.out⟩
      · have hxd : (b.x == (r : Int)) = false := by simpa using hx
        have HXX := Lib.hid hx
        clear hf hb hk hba hcode hk2 hx hnn hWs
        go_enter Tryd.func87, Tryd.ntmps87
        go_wp2_with fail
        go_ret
        exact ⟨false, rfl, ⟨fun h => by simp at h, fun h => absurd (HP.out.1 h).2 HXX.out⟩, HBF.out⟩
    · have hk2d : (b.kind == 2) = false := by simpa using hk2
      have HK2 := Lib.hid hk2
      clear hf hb hk hba hcode hk2 hnn hWs
      go_enter Tryd.func87, Tryd.ntmps87
      go_wp2_with fail
      go_ret
      exact ⟨false, rfl, ⟨fun h => by simp at h, fun h => absurd (HP.out.1 h).1 HK2.out⟩, HBF.out⟩
  · have hlt : at_ < b.code.length := by omega
    have hed : ((at_ : Int) == (b.code.length : Int)) = false := by simp; omega
    obtain ⟨q, hq⟩ : ∃ q, b.code[at_]? = some q := ⟨_, List.getElem?_eq_getElem hlt⟩
    have HP : Hid (UseAt b at_ r ↔ (r : Int) ∈ q.uses) := by
      show _ ↔ _
      unfold UseAt
      rw [if_neg hend]
      exact ⟨fun ⟨i, hi, h⟩ => by rw [hq] at hi; obtain rfl := Option.some.inj hi; exact h, fun h => ⟨q, hq, h⟩⟩
    rcases hcode.at_ with hz | ⟨cb, co, rfl, hcc⟩
    · omega
    obtain ⟨g0, g1, g2, g3, g4, g5⟩ := (hcc at_ q hq).below HBF.out
    have HQWF := Lib.hid (hcode.wf q (List.mem_of_getElem? hq))
    have ha0 : (0 : Int) ≤ (at_ : Int) := by omega
    have ha1 : (at_ : Int) < (b.code.length : Int) := by omega
    clear hf hb hk hba hcode hnn hWs hcc hq hend
    go_enter Tryd.func87, Tryd.ntmps87
    go_wp2_with fail
    clear hW hV1 x3 c0 c1 c2 c3 c4 d0 d1 d2 d3 d4 g0 g1 g2 g3 g4 g5
    refine (refUses_any q _ HQWF.out.op0 HQWF.out.op1).mono ?_
    rintro e w3 ⟨uv, rfl, hU, hB3⟩
    have HB3 : Hid (Below w.heap.size w w3) := below_step HBF.out hB3
    have hul := uses_two q
    obtain ⟨ua, uc, rfl, hla⟩ := hU.at_
    have HLA := Lib.hid hla
    obtain ⟨un, hun⟩ : ∃ m, q.uses.length = m := ⟨_, rfl⟩
    have HUN := Lib.hid hun
    rw [hun] at hul HLA ⊢
    clear hU hB3 hla hun
    go_wp2_with fail
    go_loopw [11] (fun i wr => ∃ j : Nat, j ≤ un ∧ i = .int .i64 (j : Int) ∧ (r : Int) ∉ q.uses.take j ∧ wr = w3) (fun i _ => un - (intOf i).toNat)
    case atStart => exact ⟨0, Nat.zero_le _, rfl, by simp, rfl⟩
    case round =>
      obtain ⟨j, hj, rfl, htk, rfl⟩ := hrel
      have HTK := Lib.hid htk
      have hj0 : (0 : Int) ≤ (j : Int) := by omega
      clear htk
      by_cases hju : j < un
      · have hju2 : (j : Int) < (un : Int) := by omega
        obtain ⟨y, hy⟩ : ∃ y, q.uses[j]? = some y := ⟨_, List.getElem?_eq_getElem (by rw [HUN.out]; exact hju)⟩
        have HY := Lib.hid hy
        rcases HLA.out with h0 | ⟨lb, lo, rfl, _, hcl⟩
        · omega
        have c1 := hcl j y hy
        clear hcl hy
        by_cases hxy : y = (r : Int)
        · have e2 : (y == (r : Int)) = true := by simpa using hxy
          have HIN : Hid ((r : Int) ∈ q.uses) := by show _ ∈ _; rw [← hxy]; exact List.mem_of_getElem? HY.out
          clear hxy
          go_wp2_with fail
          go_ret
          exact ⟨true, rfl, ⟨fun _ => HP.out.2 HIN.out, fun _ => rfl⟩, HB3.out⟩
        · have e2 : (y == (r : Int)) = false := by simpa using hxy
          have HNX : Hid ((r : Int) ∉ q.uses.take (j + 1)) := by
            show _ ∉ _
            rw [take_snoc HY.out]
            simp [Ne.symm hxy]
            exact HTK.out
          clear hxy
          go_wp2_with fail
          exact ⟨⟨j + 1, by omega, by go_num, HNX.out, trivial⟩, by simp [intOf]; omega⟩
      · obtain rfl : un = j := by omega
        have HNI : Hid ((r : Int) ∉ q.uses) := by have := HTK.out; rwa [List.take_of_length_le (by rw [HUN.out]; exact Nat.le_refl _)] at this
        go_wp2_with fail
        go_ret
        exact ⟨false, rfl, ⟨fun h => by simp at h, fun h => absurd (HP.out.1 h) HNI.out⟩, HB3.out⟩
theorem defines19_any (f : Fn) (aa ba : Option Addr) (ac bc k at_ r : Nat) (b : Blk) (w : World) (hf : FnAt w f aa ba) (hn : f.blocks.length ≤ 1000) (hb : f.blocks[k]? = some b) (hc : b.code.length ≤ 1000000) (hat : at_ ≤ b.code.length) :
    Calls Tryd.prog 72 #[fnVal f.name f.regs aa f.arrays.length ac ba f.blocks.length bc, .int .i64 (k : Int), .int .i64 (at_ : Int), .int .i64 (r : Int)] w (Tells (DefAt b at_ r) w) := by
  have HF := Lib.hid hf
  have HB := Lib.hid hb
  obtain ⟨n, hnn⟩ : ∃ n, f.blocks.length = n := ⟨_, rfl⟩
  have hkn : k < n := by have := (List.getElem?_eq_some_iff.1 hb).1; omega
  obtain ⟨W, hW⟩ : ∃ W : World, w.alloc (.cells #[.string f.name, .int .i64 f.regs, .slice aa f.arrays.length ac, .slice ba n bc] 36) = W := ⟨_, rfl⟩
  have HBW : Hid (Below w.heap.size w W) := by show Below _ _ _; rw [← hW]; exact (Below.refl _ _).alloc (Nat.le_refl _) _
  have HX : Hid (W.heap[w.heap.size]? = some (.cells #[.string f.name, .int .i64 f.regs, .slice aa f.arrays.length ac, .slice ba n bc] 36)) := by
    show _ = _
    rw [← hW]
    exact (MapKept.heap_alloc w _).1
  have x3 : W.cell? ⟨w.heap.size, 3, none⟩ = some (.slice ba n bc) := cell_heap HX.out 3
  rcases hf.blocks.at_ with hz | ⟨bb, off, rfl, hk⟩
  · omega
  obtain ⟨ca, cc, hba, hcode⟩ := hk k b hb
  obtain ⟨c0, c1, c2, c3, c4⟩ := hba.below HBW.out
  obtain ⟨V1, hV1⟩ : ∃ V1 : World, W.alloc (.cells #[.slice ca b.code.length cc, .int .u8 b.kind, .int .i64 b.x, .int .i64 b.to, .int .i64 b.els] 90) = V1 := ⟨_, rfl⟩
  have HBV1 : Hid (Below W.heap.size W V1) := by show Below _ _ _; rw [← hV1]; exact (Below.refl _ _).alloc (Nat.le_refl _) _
  have HZ1 : Hid (V1.heap[W.heap.size]? = some (.cells #[.slice ca b.code.length cc, .int .u8 b.kind, .int .i64 b.x, .int .i64 b.to, .int .i64 b.els] 90)) := by
    show _ = _
    rw [← hV1]
    exact (MapKept.heap_alloc W _).1
  have HBF : Hid (Below w.heap.size w V1) := below_step HBW.out HBV1.out
  obtain ⟨d0, d1, d2, d3, d4⟩ := five_cells HZ1.out
  have hk0 : (0 : Int) ≤ (k : Int) := by omega
  have hk1 : (k : Int) < (n : Int) := by omega
  rw [hnn]
  by_cases hend : at_ = b.code.length
  · subst hend
    have HNO : Hid (¬ DefAt b b.code.length r) := fun ⟨i, hi, _⟩ => by have := (List.getElem?_eq_some_iff.1 hi).1; omega
    clear hf hb hk hba hcode hnn
    go_enter Tryd.func72, Tryd.ntmps72
    go_wp2_with fail
    go_ret
    exact ⟨false, rfl, ⟨fun h => by simp at h, fun h => absurd h HNO.out⟩, HBF.out⟩
  · have hlt : at_ < b.code.length := by omega
    have hed : ((at_ : Int) == (b.code.length : Int)) = false := by simp; omega
    obtain ⟨q, hq⟩ : ∃ q, b.code[at_]? = some q := ⟨_, List.getElem?_eq_getElem hlt⟩
    have HP : Hid (DefAt b at_ r ↔ q.defines = some (r : Int)) := ⟨fun ⟨i, hi, h⟩ => by rw [hq] at hi; obtain rfl := Option.some.inj hi; exact h, fun h => ⟨q, hq, h⟩⟩
    rcases hcode.at_ with hz | ⟨cb, co, rfl, hcc⟩
    · omega
    obtain ⟨g0, g1, g2, g3, g4, g5⟩ := (hcc at_ q hq).below HBF.out
    have HQWF := Lib.hid (hcode.wf q (List.mem_of_getElem? hq))
    have ha0 : (0 : Int) ≤ (at_ : Int) := by omega
    have ha1 : (at_ : Int) < (b.code.length : Int) := by omega
    clear hf hb hk hba hcode hnn hcc hq hend
    go_enter Tryd.func72, Tryd.ntmps72
    go_wp2_with fail
    clear hW hV1 x3 c0 c1 c2 c3 c4 d0 d1 d2 d3 d4 g0 g1 g2 g3 g4 g5
    refine (refDefines_any q _ HQWF.out.op0 HQWF.out.op1).mono ?_
    unfold DefOk
    rintro e w3 ⟨rfl, hB3⟩
    have HB3 : Hid (Below w.heap.size w w3) := below_step HBF.out hB3
    obtain ⟨K, hK⟩ : ∃ K : Option Int, q.defines = K := ⟨_, rfl⟩
    rw [hK]
    have HD := Lib.hid hK
    clear hB3 hK
    cases K with
    | none =>
      simp only [Option.getD_none, Option.isSome_none]
      go_wp2_with fail
      go_ret
      exact ⟨false, rfl, ⟨fun h => by simp at h, fun h => by have := HP.out.1 h; rw [HD.out] at this; cases this⟩, HB3.out⟩
    | some d =>
      simp only [Option.getD_some, Option.isSome_some]
      by_cases hd : d = (r : Int)
      · have e2 : (d == (r : Int)) = true := by simpa using hd
        have HE := Lib.hid hd
        clear hd
        go_wp2_with fail
        go_ret
        exact ⟨true, rfl, ⟨fun _ => HP.out.2 (by rw [HD.out, HE.out]), fun _ => rfl⟩, HB3.out⟩
      · have e2 : (d == (r : Int)) = false := by simpa using hd
        have HE := Lib.hid hd
        clear hd
        go_wp2_with fail
        go_ret
        exact ⟨false, rfl, ⟨fun h => by simp at h, fun h => by have := HP.out.1 h; rw [HD.out] at this; exact absurd (Option.some.inj this) HE.out⟩, HB3.out⟩
end Go.Proofs.YteknhnnlhhgppaaDoor
