/-
  Mg27: several texts in one (DeadD, LiveEq).
-/
import Derived.Test.YteknhnnlhhgppaaDoorDeadA
import Derived.Test.YteknhnnlhhgppaaDoorMg25
import Derived.Test.YteknhnnlhhgppaaDoorLiveInter
import Derived.Test.YteknhnnlhhgppaaDoorLiveForm
import Derived.Test.YteknhnnlhhgppaaDoorLiveList
/-
  Contract: Dead (package liveness), and what Dead and Interference answer where the function is not well-formed.
-/
namespace Go.Proofs.YteknhnnlhhgppaaDoor
set_option linter.unusedVariables false
set_option linter.unusedSimpArgs false
open Go.RowKit
set_option maxRecDepth 100000
set_option maxHeartbeats 16000000

def DeadEnd (f : Fn) (R : Nat) (w : World) (e : Ending) (w' : World) : Prop :=
  ∃ v ins outs, e = .returned (.tuple #[v, .int .i64 0]) ∧ Sol f R ins outs ∧ w'.ownsRow w.heap.size 80 2 v (deadUp f outs f.blocks.length).length ((deadUp f outs f.blocks.length).flatMap encP) ∧ Below w.heap.size w w'
theorem dead_any (f : Fn) (R : Nat) (aa ba : Option Addr) (ac bc : Nat) (w : World) (hf : FnAt w f aa ba) (hF : FormF f) (hreg : f.regs = (R : Int)) (hR : R ≤ 12) (hbl : f.blocks.length ≤ 10) (hcl : ∀ b ∈ f.blocks, b.code.length ≤ 20) :
    Calls Tryd.prog 36 #[fnVal f.name f.regs aa f.arrays.length ac ba f.blocks.length bc] w (DeadEnd f R w) := by
  have hFR : FormR f R := by
    have := hF.small (by omega)
    rwa [hreg, Int.toNat_natCast] at this
  have HF := Lib.hid hf
  have HFF := Lib.hid hF
  have HFR := Lib.hid hFR
  have HCL := Lib.hid hcl
  have HCL9 : Hid (∀ b ∈ f.blocks, b.code.length ≤ 1000000) := fun b hb => Nat.le_trans (hcl b hb) (by omega)
  obtain ⟨n, hn⟩ : ∃ n, f.blocks.length = n := ⟨_, rfl⟩
  have HN := Lib.hid hn
  have HREG := Lib.hid hreg
  have HBL : Hid (n ≤ 10) := by show _ ≤ _; omega
  obtain ⟨W, hW⟩ : ∃ W : World, w.alloc (.cells #[.string f.name, .int .i64 (R : Int), .slice aa f.arrays.length ac, .slice ba n bc] 25) = W := ⟨_, rfl⟩
  have HBW : Hid (Below w.heap.size w W) := by show Below _ _ _; rw [← hW]; exact mem_alloc _ _
  have HX : Hid (W.heap[w.heap.size]? = some (.cells #[.string f.name, .int .i64 (R : Int), .slice aa f.arrays.length ac, .slice ba n bc] 25)) := by
    show _ = _
    rw [← hW]
    exact mem_new _ _
  have HXC : Hid (∀ w', Below W.heap.size W w' → w'.cell? ⟨w.heap.size, 0, none⟩ = some (.string f.name) ∧ w'.cell? ⟨w.heap.size, 1, none⟩ = some (.int .i64 (R : Int)) ∧ w'.cell? ⟨w.heap.size, 2, none⟩ = some (.slice aa f.arrays.length ac) ∧ w'.cell? ⟨w.heap.size, 3, none⟩ = some (.slice ba n bc)) := fun w' h => by
    have h9 := mem_keep HX.out h
    exact ⟨cell_heap h9 0, cell_heap h9 1, cell_heap h9 2, cell_heap h9 3⟩
  obtain ⟨x0, x1, x2, x3⟩ := HXC.out W (Below.refl _ _)
  have QF : Hid (∀ w', Below w.heap.size w w' → Calls Tryd.prog 40 #[.agg #[.string f.name, .int .i64 (R : Int), .slice aa f.arrays.length ac, .slice ba n bc]] w' (fun e w'' => e = .returned (.bool true) ∧ Below w'.heap.size w' w'')) := fun w' h => by
    have h9 := wellFormed_any f aa ba ac bc w' (HF.out.below h) (by rw [HN.out]; have := HBL.out; omega) HCL9.out
    rw [HREG.out, HN.out] at h9
    refine h9.mono fun e w'' ⟨r, he, hr, hB⟩ => ⟨?_, hB⟩
    rw [he, hr.2 HFF.out]
  rw [hn, hreg]
  clear hf hF hFR hcl hreg hn hbl
  go_enter Tryd.func36, Tryd.ntmps36
  go_wp2_with fail
  clear hW x0 x1 x2 x3
  refine (QF.out _ HBW.out).mono ?_
  rintro e w1 ⟨rfl, hB⟩
  have HB1 := Lib.hid hB
  obtain ⟨M1, hM1⟩ : ∃ M1 : World, w1.alloc (.cells #[.slice none 0 0] 76) = M1 := ⟨_, rfl⟩
  have HBM1 : Hid (Below w1.heap.size w1 M1) := by show Below _ _ _; rw [← hM1]; exact mem_alloc _ _
  have HD1 : Hid (M1.heap[w1.heap.size]? = some (.cells #[.slice none 0 0] 76)) := by
    show _ = _
    rw [← hM1]
    exact mem_new _ _
  have HXM : Hid (M1.heap[w.heap.size]? = some (.cells #[.string f.name, .int .i64 (R : Int), .slice aa f.arrays.length ac, .slice ba n bc] 25)) := mem_keep (mem_keep HX.out HB1.out) HBM1.out
  have HBF : Hid (Below w.heap.size w M1) := mem_then (mem_then HBW.out HB1.out) HBM1.out
  have hlt1 := mem_lt HX.out
  have HDS : Hid (DeadSt f aa ba ac bc R n w.heap.size w1.heap.size M1.heap.size w M1 []) := by
    refine ⟨HXM.out, ⟨_, HD1.out, ⟨rfl, .inl ⟨rfl, rfl⟩⟩⟩, HBF.out, mem_lt HXM.out, mem_lt HD1.out, Nat.le_refl _, HBF.out.size, Nat.le_refl _, Nat.le_trans HBW.out.size HB1.out.size, ?_⟩
    have := HB1.out.size
    omega
  obtain ⟨x0, x1, x2, x3⟩ := HXC.out M1 (mem_then HB1.out HBM1.out)
  have y0 : M1.cell? ⟨w1.heap.size, 0, none⟩ = some (.slice none 0 0) := mem_cell HD1.out 0
  clear hB hlt1
  go_wp2_with fail
  clear hM1 x0 x1 x2 x3 y0
  refine (dafter_any f aa ba ac bc R n w.heap.size w1.heap.size w M1 HF.out HFR.out HREG.out HN.out HBL.out HCL.out HDS.out).mono ?_
  rintro e w2 ⟨⟨u2, rfl⟩, sins, souts, hsol, hst⟩
  obtain ⟨D, hD⟩ : ∃ D, deadDown f souts n = D := ⟨_, rfl⟩
  rw [hD] at hst
  have HDD := Lib.hid hD
  have HSOL := Lib.hid hsol
  obtain ⟨dv, hdb, hrow⟩ := hst.row
  have HB2 := Lib.hid hst.bel
  have HDB := Lib.hid hdb
  have HROW := Lib.hid hrow
  have HDL : Hid (D.length ≤ 1000000) := by
    show _ ≤ _
    rw [← hD, (dead_perm f souts n).length_eq]
    have h1 := deadUp_len (outs := souts) HCL.out n
    have h2 := HBL.out
    have h3 : n * 20 ≤ 10 * 20 := Nat.mul_le_mul_right 20 h2
    omega
  obtain ⟨da, dc, rfl⟩ := ownsRow_val hrow
  have y0 : w2.cell? ⟨w1.heap.size, 0, none⟩ = some (.slice da D.length dc) := mem_cell hdb 0
  clear hsol hst hD hdb hrow
  go_wp2_with fail
  clear y0
  refine (sortp_any D D.length w.heap.size (.slice da D.length dc) w2 rfl HDL.out HROW.out).mono ?_
  rintro e w3 ⟨rfl, hown, hg⟩
  have HOWN := Lib.hid hown
  have HB3 : Hid (Below w.heap.size w w3) := HB2.out.grown hg HB2.out.size (fun b hb => (ownsRow_lt HROW.out hb).1)
  have y0 : w3.cell? ⟨w1.heap.size, 0, none⟩ = some (.slice da D.length dc) := by
    have h9 := hg.block w1.heap.size (mem_lt HDB.out) (fun e => ownsRow_ne HROW.out HDB.out (by decide) e.symm)
    exact mem_cell (h9.trans HDB.out) 0
  have HEND : Hid (w3.ownsRow w.heap.size 80 2 (.slice da D.length dc) (deadUp f souts n).length ((deadUp f souts n).flatMap encP)) := by
    have h9 := HOWN.out
    rw [← dead_sorted, HDD.out, List.length_mergeSort]
    exact h9
  clear hown hg
  go_wp2_with fail
  go_ret2
  exact ⟨_, sins, souts, rfl, HSOL.out, by rw [HN.out]; exact HEND.out, HB3.out⟩
theorem dead_none (f : Fn) (aa ba : Option Addr) (ac bc : Nat) (w : World) (hf : FnAt w f aa ba) (hF : ¬ FormF f) (hbl : f.blocks.length ≤ 1000) (hcl : ∀ b ∈ f.blocks, b.code.length ≤ 1000000) :
    Calls Tryd.prog 36 #[fnVal f.name f.regs aa f.arrays.length ac ba f.blocks.length bc] w (fun e w' => e = .returned (.tuple #[.slice none 0 0, .int .i64 3]) ∧ Below w.heap.size w w') := by
  have HF := Lib.hid hf
  have HFF := Lib.hid hF
  have HCL := Lib.hid hcl
  obtain ⟨n, hn⟩ : ∃ n, f.blocks.length = n := ⟨_, rfl⟩
  have HN := Lib.hid hn
  obtain ⟨W, hW⟩ : ∃ W : World, w.alloc (.cells #[.string f.name, .int .i64 f.regs, .slice aa f.arrays.length ac, .slice ba n bc] 25) = W := ⟨_, rfl⟩
  have HBW : Hid (Below w.heap.size w W) := by show Below _ _ _; rw [← hW]; exact mem_alloc _ _
  have HX : Hid (W.heap[w.heap.size]? = some (.cells #[.string f.name, .int .i64 f.regs, .slice aa f.arrays.length ac, .slice ba n bc] 25)) := by
    show _ = _
    rw [← hW]
    exact mem_new _ _
  have x0 : W.cell? ⟨w.heap.size, 0, none⟩ = some (.string f.name) := cell_heap HX.out 0
  have x1 : W.cell? ⟨w.heap.size, 1, none⟩ = some (.int .i64 f.regs) := cell_heap HX.out 1
  have x2 : W.cell? ⟨w.heap.size, 2, none⟩ = some (.slice aa f.arrays.length ac) := cell_heap HX.out 2
  have x3 : W.cell? ⟨w.heap.size, 3, none⟩ = some (.slice ba n bc) := cell_heap HX.out 3
  have QF : Hid (∀ w', Below w.heap.size w w' → Calls Tryd.prog 40 #[.agg #[.string f.name, .int .i64 f.regs, .slice aa f.arrays.length ac, .slice ba n bc]] w' (fun e w'' => e = .returned (.bool false) ∧ Below w'.heap.size w' w'')) := fun w' h => by
    have h9 := wellFormed_any f aa ba ac bc w' (HF.out.below h) (by rw [HN.out]; omega) HCL.out
    rw [HN.out] at h9
    refine h9.mono fun e w'' ⟨r, he, hr, hB⟩ => ⟨?_, hB⟩
    cases r with
    | true => exact absurd (hr.1 rfl) HFF.out
    | false => exact he
  rw [hn]
  clear hf hF hcl hn hbl
  go_enter Tryd.func36, Tryd.ntmps36
  go_wp2_with fail
  clear hW x0 x1 x2 x3
  refine (QF.out _ HBW.out).mono ?_
  rintro e w0 ⟨rfl, hB⟩
  have HB0 : Hid (Below w.heap.size w w0) := mem_then HBW.out hB
  clear hB
  go_wp2_with fail
  go_ret2
  exact ⟨rfl, HB0.out⟩
theorem inter_none (f : Fn) (aa ba : Option Addr) (ac bc : Nat) (w : World) (hf : FnAt w f aa ba) (hF : ¬ FormF f) (hbl : f.blocks.length ≤ 1000) (hcl : ∀ b ∈ f.blocks, b.code.length ≤ 1000000) :
    Calls Tryd.prog 29 #[fnVal f.name f.regs aa f.arrays.length ac ba f.blocks.length bc] w (fun e w' => e = .returned (.tuple #[.slice none 0 0, .int .i64 3]) ∧ Below w.heap.size w w') := by
  have HF := Lib.hid hf
  have HFF := Lib.hid hF
  have HCL := Lib.hid hcl
  obtain ⟨n, hn⟩ : ∃ n, f.blocks.length = n := ⟨_, rfl⟩
  have HN := Lib.hid hn
  obtain ⟨W, hW⟩ : ∃ W : World, w.alloc (.cells #[.string f.name, .int .i64 f.regs, .slice aa f.arrays.length ac, .slice ba n bc] 25) = W := ⟨_, rfl⟩
  have HBW : Hid (Below w.heap.size w W) := by show Below _ _ _; rw [← hW]; exact mem_alloc _ _
  have HX : Hid (W.heap[w.heap.size]? = some (.cells #[.string f.name, .int .i64 f.regs, .slice aa f.arrays.length ac, .slice ba n bc] 25)) := by
    show _ = _
    rw [← hW]
    exact mem_new _ _
  have x0 : W.cell? ⟨w.heap.size, 0, none⟩ = some (.string f.name) := cell_heap HX.out 0
  have x1 : W.cell? ⟨w.heap.size, 1, none⟩ = some (.int .i64 f.regs) := cell_heap HX.out 1
  have x2 : W.cell? ⟨w.heap.size, 2, none⟩ = some (.slice aa f.arrays.length ac) := cell_heap HX.out 2
  have x3 : W.cell? ⟨w.heap.size, 3, none⟩ = some (.slice ba n bc) := cell_heap HX.out 3
  have QF : Hid (∀ w', Below w.heap.size w w' → Calls Tryd.prog 40 #[.agg #[.string f.name, .int .i64 f.regs, .slice aa f.arrays.length ac, .slice ba n bc]] w' (fun e w'' => e = .returned (.bool false) ∧ Below w'.heap.size w' w'')) := fun w' h => by
    have h9 := wellFormed_any f aa ba ac bc w' (HF.out.below h) (by rw [HN.out]; omega) HCL.out
    rw [HN.out] at h9
    refine h9.mono fun e w'' ⟨r, he, hr, hB⟩ => ⟨?_, hB⟩
    cases r with
    | true => exact absurd (hr.1 rfl) HFF.out
    | false => exact he
  rw [hn]
  clear hf hF hcl hn hbl
  go_enter Tryd.func29, Tryd.ntmps29
  go_wp2_with fail
  clear hW x0 x1 x2 x3
  refine (QF.out _ HBW.out).mono ?_
  rintro e w0 ⟨rfl, hB⟩
  have HB0 : Hid (Below w.heap.size w w0) := mem_then HBW.out hB
  clear hB
  go_wp2_with fail
  go_ret2
  exact ⟨rfl, HB0.out⟩
end Go.Proofs.YteknhnnlhhgppaaDoor

/-
  Contracts: slices.Equal of ints; small, ins (package ontimelaw19).
-/
namespace Go.Proofs.YteknhnnlhhgppaaDoor
set_option linter.unusedVariables false
set_option linter.unusedSimpArgs false
open Go.RowKit
set_option maxRecDepth 100000
set_option maxHeartbeats 4000000

/-- a slice of ints, wherever it lies -/
def IntsAt (w : World) (v : Value) (l : List Int) : Prop :=
  ∃ a c, v = .slice a l.length c ∧ (l.length = 0 ∨ ∃ b off, a = some ⟨b, off, none⟩ ∧ b < w.heap.size ∧ ∀ (i : Nat) (x : Int), l[i]? = some x → w.cell? ⟨b, off + i, none⟩ = some (.int .i64 x))
theorem IntsAt.below {w w' : World} {v : Value} {l : List Int} (h : IntsAt w v l) (hB : Below w.heap.size w w') : IntsAt w' v l := by
  obtain ⟨a, c, rfl, h⟩ := h
  refine ⟨a, c, rfl, ?_⟩
  rcases h with h | ⟨b, off, ha, hb, hc⟩
  · exact .inl h
  · exact .inr ⟨b, off, ha, Nat.lt_of_lt_of_le hb hB.size, fun i x hx => cell_below hB (hc i x hx)⟩
theorem IntRow.at_ {B : Nat} {w : World} {v : Value} {l : List Int} (h : IntRow B w v l) : IntsAt w v l := by
  obtain ⟨a, c, rfl⟩ := h.val
  refine ⟨a, c, rfl, ?_⟩
  rcases Nat.eq_zero_or_pos l.length with h0 | h0
  · exact .inl h0
  · obtain ⟨g, rfl, _, hg, _⟩ := own_some h h0
    exact .inr ⟨g, 0, rfl, hg, fun i x hx => by rw [Nat.zero_add]; exact own_cell h (by rw [List.getElem?_map, hx]; rfl)⟩
theorem IntsIn.at_ {S : Nat → Prop} {w : World} {v : Value} {l : List Int} (h : IntsIn S w v l) : IntsAt w v l := by
  rcases h with ⟨rfl, rfl⟩ | ⟨b, off, cap, rfl, _, _, hb, hk⟩
  · exact ⟨none, 0, rfl, .inl rfl⟩
  · refine ⟨_, cap, rfl, .inr ⟨b, off, rfl, hb, fun i x hx => ?_⟩⟩
    obtain ⟨hi, rfl⟩ := List.getElem?_eq_some_iff.1 hx
    rw [hk i hi]
    simp [hi]
theorem drewN_add {w : World} {a b : Nat} : (w.drewN a).drewN b = w.drewN (a + b) := by unfold World.drewN; simp [Nat.add_assoc]
theorem intsEqual_any (l m : List Int) (va vb : Value) (w : World) (ha : IntsAt w va l) (hb : IntsAt w vb m) (hl : l.length ≤ 1000000) (hm : m.length ≤ 1000000) :
    Calls Tryd.prog 16 #[va, vb] w fun e w' => e = .returned (.bool (decide (l = m))) ∧ ∃ k, w' = World.drewN w k := by
  obtain ⟨a, c, rfl, hla⟩ := ha
  obtain ⟨b, d, rfl, hlb⟩ := hb
  have HLA := Lib.hid hla
  have HLB := Lib.hid hlb
  clear hla hlb
  by_cases hlen : l.length = m.length
  · obtain ⟨n, hn⟩ : ∃ n, l.length = n := ⟨_, rfl⟩
    have HN := Lib.hid hn
    have HM : Hid (m.length = n) := by show _ = _; omega
    rw [← hlen, hn]
    rw [hn] at hl
    clear hlen hn hm
    go_enter Tryd.func16, Tryd.ntmps16
    go_wp2_with fail
    go_loopw [13] (fun i wr => ∃ j : Nat, j ≤ n ∧ i = .int .i64 (j : Int) ∧ l.take j = m.take j ∧ ∃ k, wr = World.drewN w k) (fun i _ => n - (intOf i).toNat)
    case atStart => exact ⟨0, Nat.zero_le _, rfl, by simp, 0, rfl⟩
    case round =>
      obtain ⟨j, hj, rfl, htk, k, hk⟩ := hrel
      have HTK := Lib.hid htk
      have HK := Lib.hid hk
      have HB : Hid (Below w.heap.size w wr) := by show Below _ _ _; rw [hk]; exact ⟨rfl, rfl, rfl, Nat.le_refl _, fun _ _ => rfl⟩
      have hj0 : (0 : Int) ≤ (j : Int) := by omega
      clear htk hk
      by_cases hlt : j < n
      · have hlt2 : (j : Int) < (n : Int) := by omega
        obtain ⟨x, hx⟩ : ∃ x, l[j]? = some x := ⟨_, List.getElem?_eq_getElem (by rw [HN.out]; exact hlt)⟩
        obtain ⟨y, hy⟩ : ∃ y, m[j]? = some y := ⟨_, List.getElem?_eq_getElem (by rw [HM.out]; exact hlt)⟩
        rcases HLA.out with h0 | ⟨lb, lo, rfl, _, hc⟩
        · have := HN.out; omega
        rcases HLB.out with h0 | ⟨mb, mo, rfl, _, hd⟩
        · have := HM.out; omega
        have c1 := cell_below HB.out (hc j x hx)
        have c2 := cell_below HB.out (hd j y hy)
        have HXY := Lib.hid (And.intro hx hy)
        clear hc hd hx hy
        by_cases hxy : x = y
        · have e2 : (x != y) = false := by simp [hxy]
          have HNX : Hid (l.take (j + 1) = m.take (j + 1)) := by show _ = _; rw [take_snoc HXY.out.1, take_snoc HXY.out.2, HTK.out, hxy]
          clear hxy
          go_wp2_with fail
          go_quiet (fail)
          go_wp2_with fail
          refine ⟨⟨j + 1, by omega, by go_num, HNX.out, ?_⟩, by simp [intOf]; omega⟩
          rw [HK.out]
          exact ⟨_, drewN_add⟩
        · have e2 : (x != y) = true := by simp [hxy]
          have hne : decide (l = m) = false := by
            rw [decide_eq_false_iff_not]
            intro e
            have h9 := HXY.out
            rw [e, h9.2] at h9
            exact hxy (Option.some.inj h9.1).symm
          have HNE := Lib.hid hne
          clear hxy hne
          go_wp2_with fail
          go_quiet (fail)
          go_wp2_with fail
          go_ret
          rw [HNE.out, HK.out]
          exact ⟨rfl, _, drewN_add⟩
      · obtain rfl : n = j := by omega
        have heq : decide (l = m) = true := by
          have h9 := HTK.out
          rw [List.take_of_length_le (by rw [HN.out]; exact Nat.le_refl _), List.take_of_length_le (by rw [HM.out]; exact Nat.le_refl _)] at h9
          simpa using h9
        have HEQ := Lib.hid heq
        clear heq
        go_wp2_with fail
        go_ret
        exact ⟨by rw [HEQ.out]; rfl, _, HK.out⟩
  · have hne : decide (l = m) = false := by
      rw [decide_eq_false_iff_not]
      intro e
      exact hlen (by rw [e])
    have e2 : ((l.length : Int) != (m.length : Int)) = true := by simp; omega
    rw [hne]
    clear hlen hne
    go_enter Tryd.func16, Tryd.ntmps16
    go_wp2_with fail
    go_ret
    exact ⟨rfl, 0, rfl⟩
theorem ins_any (op dst x y imm : Int) (w : World) :
    Calls Tryd.prog 27 #[.int .u8 op, .int .i64 dst, .int .i64 x, .int .i64 y, .int .i64 imm] w fun e w' => e = .returned (.agg #[.int .u8 op, .int .i64 dst, .int .i64 x, .int .i64 y, .int .i64 imm, .string ⟨#[]⟩]) ∧ Below w.heap.size w w' := by
  go_enter Tryd.func27, Tryd.ntmps27
  go_wp2_with fail
  exact bodyPost_ret (v := .agg #[.int .u8 op, .int .i64 dst, .int .i64 x, .int .i64 y, .int .i64 imm, .string ⟨#[]⟩]) (by simp [results, Tryd.results27, go_sem]) rfl ⟨rfl, (Below.refl _ _).alloc (Nat.le_refl _) _⟩
/-- a function that is small -/
structure SmallF (f : Fn) : Prop where
  bl : f.blocks.length ≤ 10
  rg : f.regs ≤ 12
  cd : ∀ b ∈ f.blocks, b.code.length ≤ 20
theorem small_any (f : Fn) (aa ba : Option Addr) (ac bc : Nat) (w : World) (hf : FnAt w f aa ba) :
    Calls Tryd.prog 11 #[fnVal f.name f.regs aa f.arrays.length ac ba f.blocks.length bc] w (Tells (SmallF f) w) := by
  have HF := Lib.hid hf
  have hfits := hf.blocks.fits
  obtain ⟨n, hn⟩ : ∃ n, f.blocks.length = n := ⟨_, rfl⟩
  have HN := Lib.hid hn
  obtain ⟨W, hW⟩ : ∃ W : World, w.alloc (.cells #[.string f.name, .int .i64 f.regs, .slice aa f.arrays.length ac, .slice ba n bc] 25) = W := ⟨_, rfl⟩
  have HBW : Hid (Below w.heap.size w W) := by show Below _ _ _; rw [← hW]; exact (Below.refl _ _).alloc (Nat.le_refl _) _
  have HX : Hid (W.heap[w.heap.size]? = some (.cells #[.string f.name, .int .i64 f.regs, .slice aa f.arrays.length ac, .slice ba n bc] 25)) := by
    show _ = _
    rw [← hW]
    exact (MapKept.heap_alloc w _).1
  have x1 : W.cell? ⟨w.heap.size, 1, none⟩ = some (.int .i64 f.regs) := cell_heap HX.out 1
  have x3 : W.cell? ⟨w.heap.size, 3, none⟩ = some (.slice ba n bc) := cell_heap HX.out 3
  rw [hn] at hfits ⊢
  clear hf hn
  by_cases h0 : 10 < n
  · have HNO : Hid (¬ SmallF f) := fun h => by have := h.bl; have := HN.out; omega
    have h0i : (10 : Int) < (n : Int) := by omega
    go_enter Tryd.func11, Tryd.ntmps11
    go_wp2_with fail
    go_ret
    exact ⟨false, rfl, ⟨fun h => by simp at h, fun h => absurd h HNO.out⟩, HBW.out⟩
  have h0d : decide ((10 : Int) < (n : Int)) = false := by simp; omega
  by_cases h1 : 12 < f.regs
  · have HNO : Hid (¬ SmallF f) := fun h => by have := h.rg; omega
    go_enter Tryd.func11, Tryd.ntmps11
    go_wp2_with fail
    go_ret
    exact ⟨false, rfl, ⟨fun h => by simp at h, fun h => absurd h HNO.out⟩, HBW.out⟩
  have h1d : decide (12 < f.regs) = false := by simpa using h1
  have H01 : Hid (n ≤ 10 ∧ f.regs ≤ 12) := by show _ ∧ _; omega
  go_enter Tryd.func11, Tryd.ntmps11
  go_wp2_with fail
  clear hW x1 x3 h0d h1d h1
  go_loopw [17] (fun i wr => ∃ j : Nat, j ≤ n ∧ i = .int .i64 (j : Int) ∧ (∀ b ∈ f.blocks.take j, b.code.length ≤ 20) ∧ Below W.heap.size W wr) (fun i _ => n - (intOf i).toNat)
  case atStart => exact ⟨0, Nat.zero_le _, rfl, by simp, Below.refl _ _⟩
  case round =>
    obtain ⟨j, hj, rfl, hall, hbel⟩ := hrel
    have HALL := Lib.hid hall
    have HB2 : Hid (Below w.heap.size w wr) := HBW.out.trans (hbel.mono HBW.out.size)
    have HBEL := Lib.hid hbel
    have hj0 : (0 : Int) ≤ (j : Int) := by omega
    clear hall hbel
    by_cases hlt : j < n
    · have hlt2 : (j : Int) < (n : Int) := by omega
      obtain ⟨b, hb⟩ : ∃ b, f.blocks[j]? = some b := ⟨_, List.getElem?_eq_getElem (by rw [HN.out]; exact hlt)⟩
      have HB := Lib.hid hb
      rcases HF.out.blocks.at_ with hz | ⟨bb, off, rfl, hk⟩
      · have := HN.out; omega
      obtain ⟨ca, cc, hba, hcode⟩ := hk j b hb
      obtain ⟨c0, c1, c2, c3, c4⟩ := hba.below HB2.out
      obtain ⟨V1, hV1⟩ : ∃ V1 : World, wr.alloc (.cells #[.slice ca b.code.length cc, .int .u8 b.kind, .int .i64 b.x, .int .i64 b.to, .int .i64 b.els] 43) = V1 := ⟨_, rfl⟩
      have HBV1 : Hid (Below wr.heap.size wr V1) := by show Below _ _ _; rw [← hV1]; exact (Below.refl _ _).alloc (Nat.le_refl _) _
      have HZ1 : Hid (V1.heap[wr.heap.size]? = some (.cells #[.slice ca b.code.length cc, .int .u8 b.kind, .int .i64 b.x, .int .i64 b.to, .int .i64 b.els] 43)) := by
        show _ = _
        rw [← hV1]
        exact (MapKept.heap_alloc wr _).1
      have d0 : V1.cell? ⟨wr.heap.size, 0, none⟩ = some (.slice ca b.code.length cc) := cell_heap HZ1.out 0
      have HB3 : Hid (Below w.heap.size w V1) := below_step HB2.out HBV1.out
      have HB4 : Hid (Below W.heap.size W V1) := below_step HBEL.out HBV1.out
      clear hk hba hcode hb
      by_cases hc : 20 < b.code.length
      · have hci : (20 : Int) < (b.code.length : Int) := by omega
        have HNO : Hid (¬ SmallF f) := fun h => by have := h.cd b (List.mem_of_getElem? HB.out); omega
        go_wp2_with fail
        go_ret
        exact ⟨false, rfl, ⟨fun h => by simp at h, fun h => absurd h HNO.out⟩, HB3.out⟩
      · have hci : decide ((20 : Int) < (b.code.length : Int)) = false := by simp; omega
        have HNX : Hid (∀ z ∈ f.blocks.take (j + 1), z.code.length ≤ 20) := fun z hz => by
          rw [take_snoc HB.out] at hz
          rcases List.mem_append.1 hz with hz | hz
          · exact HALL.out z hz
          · rw [List.mem_singleton.1 hz]; omega
        go_wp2_with fail
        clear hV1
        exact ⟨⟨j + 1, by omega, by go_num, HNX.out, HB4.out⟩, by simp [intOf]; omega⟩
    · obtain rfl : n = j := by omega
      go_wp2_with fail
      go_ret
      exact ⟨true, rfl, ⟨fun _ => ⟨by rw [HN.out]; exact H01.out.1, H01.out.2, fun b hb => HALL.out b (by rw [← HN.out, List.take_length]; exact hb)⟩, fun _ => rfl⟩, HB2.out⟩
end Go.Proofs.YteknhnnlhhgppaaDoor
