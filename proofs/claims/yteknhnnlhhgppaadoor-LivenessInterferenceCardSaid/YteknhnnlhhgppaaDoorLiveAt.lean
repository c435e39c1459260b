/-
  Contracts: Live, At (package ontimeref19).
-/
import Derived.Test.YteknhnnlhhgppaaDoorLiveLeaves
namespace Go.Proofs.YteknhnnlhhgppaaDoor
set_option linter.unusedVariables false
set_option linter.unusedSimpArgs false
open Go.RowKit
set_option maxRecDepth 100000
set_option maxHeartbeats 16000000

theorem live_any (f : Fn) (aa ba : Option Addr) (ac bc R k at_ r o : Nat) (b : Blk) (w : World) (hf : FnAt w f aa ba) (hn : f.blocks.length ≤ 1000) (hb : f.blocks[k]? = some b) (hcl : ∀ b ∈ f.blocks, b.code.length ≤ 1000000) (hat : at_ ≤ b.code.length) (hF : FormR f R) (hr : r < R)
    (ho : o < 2 ^ R) (hol : o.testBit r = true ↔ LeavesP f r k) :
    Calls Tryd.prog 50 #[fnVal f.name f.regs aa f.arrays.length ac ba f.blocks.length bc, .int .i64 (k : Int), .int .i64 (at_ : Int), .int .i64 (r : Int)] w (Tells ((blkB b at_ o).testBit r = true) w) := by
  have HF := Lib.hid hf
  obtain ⟨n, hnn⟩ : ∃ n, f.blocks.length = n := ⟨_, rfl⟩
  have HN := Lib.hid hnn
  obtain ⟨W, hW⟩ : ∃ W : World, w.alloc (.cells #[.string f.name, .int .i64 f.regs, .slice aa f.arrays.length ac, .slice ba n bc] 36) = W := ⟨_, rfl⟩
  have hWs : W.heap.size = w.heap.size + 1 := by rw [← hW]; simp
  have HBW : Hid (Below w.heap.size w W) := by show Below _ _ _; rw [← hW]; exact (Below.refl _ _).alloc (Nat.le_refl _) _
  have HX : Hid (W.heap[w.heap.size]? = some (.cells #[.string f.name, .int .i64 f.regs, .slice aa f.arrays.length ac, .slice ba n bc] 36)) := by
    show _ = _
    rw [← hW]
    exact (MapKept.heap_alloc w _).1
  have HXC : Hid (∀ w', Below W.heap.size W w' → w'.cell? ⟨w.heap.size, 0, none⟩ = some (.string f.name) ∧ w'.cell? ⟨w.heap.size, 1, none⟩ = some (.int .i64 f.regs) ∧ w'.cell? ⟨w.heap.size, 2, none⟩ = some (.slice aa f.arrays.length ac) ∧ w'.cell? ⟨w.heap.size, 3, none⟩ = some (.slice ba n bc)) := fun w' h => by
    have h9 := (h.block _ (show w.heap.size < W.heap.size by omega)).trans HX.out
    exact ⟨cell_heap h9 0, cell_heap h9 1, cell_heap h9 2, cell_heap h9 3⟩
  obtain ⟨x0, x1, x2, x3⟩ := HXC.out W (Below.refl _ _)
  have QR : Hid (Calls Tryd.prog 79 #[.agg #[.string f.name, .int .i64 f.regs, .slice aa f.arrays.length ac, .slice ba n bc], .int .i64 (k : Int), .int .i64 (at_ : Int), .int .i64 (r : Int)] W (ReachEnd R b at_ r W)) := by
    have h9 := reaches_any f aa ba ac bc R k at_ r b W (hf.below HBW.out) hn hb (hcl b (List.mem_of_getElem? hb)) hat hF hr
    rw [hnn] at h9
    exact h9
  have QL : Hid (∀ w', Below w.heap.size w w' → Calls Tryd.prog 49 #[.agg #[.string f.name, .int .i64 f.regs, .slice aa f.arrays.length ac, .slice ba n bc], .int .i64 (k : Int), .int .i64 (r : Int)] w' (Tells (LeavesP f r k) w')) := fun w' h => by
    have h9 := leaves_any f aa ba ac bc R k r b w' (HF.out.below h) hn hb hcl hF hr
    rw [HN.out] at h9
    exact h9
  have HO := Lib.hid ho
  have HOL := Lib.hid hol
  rw [hnn]
  clear hf hb hcl hF hr ho hol hnn hn hWs hat
  go_enter Tryd.func50, Tryd.ntmps50
  go_wp2_with fail
  clear hW x0 x1 x2 x3
  refine QR.out.mono ?_
  rintro e w1 ⟨u, en, rfl, hok, hB1⟩
  have HOK : Hid ((u = true → en = false) ∧ ((blkB b at_ o).testBit r = (u || (en && o.testBit r)))) := ⟨hok.1, hok.2 o HO.out⟩
  have HB1 : Hid (Below W.heap.size W w1) := hB1
  have HBF1 : Hid (Below w.heap.size w w1) := below_step HBW.out hB1
  obtain ⟨x0, x1, x2, x3⟩ := HXC.out w1 hB1
  clear hok hB1
  cases u with
  | true =>
    go_wp2_with fail
    go_ret
    exact ⟨true, rfl, ⟨fun _ => by rw [HOK.out.2]; rfl, fun _ => rfl⟩, HBF1.out⟩
  | false =>
    cases en with
    | false =>
      go_wp2_with fail
      go_ret
      exact ⟨false, rfl, ⟨fun h => by simp at h, fun h => by rw [HOK.out.2] at h; simp at h⟩, HBF1.out⟩
    | true =>
      go_wp2_with fail
      refine (QL.out _ HBF1.out).mono ?_
      rintro e w2 ⟨l, rfl, hl, hB2⟩
      have HL := Lib.hid hl
      have HBF2 : Hid (Below w.heap.size w w2) := below_step HBF1.out hB2
      clear hl hB2
      go_wp2_with fail
      go_ret
      exact ⟨l, rfl, ⟨fun h => by rw [HOK.out.2]; simpa using HOL.out.2 (HL.out.1 h), fun h => HL.out.2 (HOL.out.1 (by rw [HOK.out.2] at h; simpa using h))⟩, HBF2.out⟩
def listTo (s j : Nat) : List Int := ((List.range j).filter (fun q => s.testBit q)).map Int.ofNat
theorem listTo_yes {s j : Nat} (h : s.testBit j = true) : listTo s (j + 1) = listTo s j ++ [(j : Int)] := by
  unfold listTo
  rw [List.range_succ, List.filter_append, List.map_append]
  simp [h]
theorem listTo_no {s j : Nat} (h : s.testBit j = false) : listTo s (j + 1) = listTo s j := by
  unfold listTo
  rw [List.range_succ, List.filter_append, List.map_append]
  simp [h]
theorem listTo_end {s R : Nat} (h : s < 2 ^ R) (hR : R ≤ 12) : listTo s R = listB s := by
  have key : ∀ d, listTo s (R + d) = listTo s R := by
    intro d
    induction d with
    | zero => rfl
    | succ d ih =>
      rw [← Nat.add_assoc, listTo_no, ih]
      exact Nat.testBit_lt_two_pow (Nat.lt_of_lt_of_le h (Nat.pow_le_pow_right (by omega) (by omega)))
  have := key (12 - R)
  rw [show R + (12 - R) = 12 by omega] at this
  rw [← this]
  rfl
theorem listTo_len (s j : Nat) : (listTo s j).length ≤ j := by
  unfold listTo
  rw [List.length_map]
  exact Nat.le_trans (List.length_filter_le _ _) (by simp)
/-- what is live at the end, by the least solution -/
theorem Sol.leaves {f : Fn} {R : Nat} {ins outs : List Nat} (h : Sol f R ins outs) (hF : FormR f R) {k r : Nat} {b : Blk} (hb : f.blocks[k]? = some b) (hr : r < R) : (outs.getD k 0).testBit r = true ↔ LeavesP f r k := by
  rw [h.eqo k b hb r]
  constructor
  · rintro ⟨t, ht, h9⟩
    exact ⟨b, hb, t, ht, ((h.iff hF _ _).1 h9).2⟩
  · rintro ⟨c, hc, t, ht, h9⟩
    rw [hb] at hc
    obtain rfl := Option.some.inj hc
    exact ⟨t, ht, (h.iff hF _ _).2 ⟨hr, h9⟩⟩
/-- the set at a point; behind the last point: at the end -/
def pointB (b : Blk) (at_ o : Nat) : Nat := if at_ ≤ b.code.length then blkB b at_ o else o
theorem at_any (f : Fn) (aa ba : Option Addr) (ac bc R k at_ o : Nat) (b : Blk) (w : World) (hf : FnAt w f aa ba) (hn : f.blocks.length ≤ 1000) (hb : f.blocks[k]? = some b) (hcl : ∀ b ∈ f.blocks, b.code.length ≤ 1000000) (hat : at_ ≤ b.code.length + 1) (hF : FormR f R)
    (ho : o < 2 ^ R) (hol : ∀ r, r < R → (o.testBit r = true ↔ LeavesP f r k)) :
    Calls Tryd.prog 17 #[fnVal f.name f.regs aa f.arrays.length ac ba f.blocks.length bc, .int .i64 (k : Int), .int .i64 (at_ : Int)] w fun e w' => ∃ v, e = .returned v ∧ IntRow w.heap.size w' v (listB (pointB b at_ o)) ∧ Below w.heap.size w w' := by
  have HF := Lib.hid hf
  have HB := Lib.hid hb
  have HFR := Lib.hid hF
  have HCL := Lib.hid hcl
  have HN1 := Lib.hid hn
  obtain ⟨n, hnn⟩ : ∃ n, f.blocks.length = n := ⟨_, rfl⟩
  have HN := Lib.hid hnn
  have hkn : k < n := by have := (List.getElem?_eq_some_iff.1 hb).1; omega
  have hreg := hF.regs
  have hR := hF.few
  obtain ⟨W, hW⟩ : ∃ W : World, w.alloc (.cells #[.string f.name, .int .i64 (R : Int), .slice aa f.arrays.length ac, .slice ba n bc] 36) = W := ⟨_, rfl⟩
  have hWs : W.heap.size = w.heap.size + 1 := by rw [← hW]; simp
  have HBW : Hid (Below w.heap.size w W) := by show Below _ _ _; rw [← hW]; exact (Below.refl _ _).alloc (Nat.le_refl _) _
  have HX : Hid (W.heap[w.heap.size]? = some (.cells #[.string f.name, .int .i64 (R : Int), .slice aa f.arrays.length ac, .slice ba n bc] 36)) := by
    show _ = _
    rw [← hW]
    exact (MapKept.heap_alloc w _).1
  rcases hf.blocks.at_ with hz | ⟨bb, off, rfl, hk⟩
  · omega
  obtain ⟨ca, cc, hba, _⟩ := hk k b hb
  have HBA := Lib.hid hba
  have HXC : Hid (∀ w', Below W.heap.size W w' → (w'.cell? ⟨w.heap.size, 0, none⟩ = some (.string f.name) ∧ w'.cell? ⟨w.heap.size, 1, none⟩ = some (.int .i64 (R : Int)) ∧ w'.cell? ⟨w.heap.size, 2, none⟩ = some (.slice aa f.arrays.length ac) ∧ w'.cell? ⟨w.heap.size, 3, none⟩ = some (.slice (some ⟨bb, off, none⟩) n bc)) ∧ BlkAt w' bb (off + k * 5) b ca cc ∧ FnAt w' f aa (some ⟨bb, off, none⟩) ∧ Below w.heap.size w w') := fun w' h => by
    have h9 := (h.block _ (show w.heap.size < W.heap.size by omega)).trans HX.out
    have h7 := HBW.out.trans (h.mono HBW.out.size)
    exact ⟨⟨cell_heap h9 0, cell_heap h9 1, cell_heap h9 2, cell_heap h9 3⟩, HBA.out.below h7, HF.out.below h7, h7⟩
  have QL : Hid (∀ r, r < R → ∀ w', FnAt w' f aa (some ⟨bb, off, none⟩) → Calls Tryd.prog 49 #[.agg #[.string f.name, .int .i64 (R : Int), .slice aa f.arrays.length ac, .slice (some ⟨bb, off, none⟩) n bc], .int .i64 (k : Int), .int .i64 (r : Int)] w' (Tells (LeavesP f r k) w')) := fun r hr w' h => by
    have h9 := leaves_any f aa (some ⟨bb, off, none⟩) ac bc R k r b w' h HN1.out HB.out HCL.out HFR.out hr
    rw [HN.out, hreg] at h9
    exact h9
  have QV : Hid (at_ ≤ b.code.length → ∀ r, r < R → ∀ w', FnAt w' f aa (some ⟨bb, off, none⟩) → Calls Tryd.prog 50 #[.agg #[.string f.name, .int .i64 (R : Int), .slice aa f.arrays.length ac, .slice (some ⟨bb, off, none⟩) n bc], .int .i64 (k : Int), .int .i64 (at_ : Int), .int .i64 (r : Int)] w' (Tells ((blkB b at_ o).testBit r = true) w')) := fun hal r hr w' h => by
    have h9 := live_any f aa (some ⟨bb, off, none⟩) ac bc R k at_ r o b w' h HN1.out HB.out HCL.out hal HFR.out hr ho (hol r hr)
    rw [HN.out, hreg] at h9
    exact h9
  have HPT : Hid (pointB b at_ o < 2 ^ R) := by
    show pointB _ _ _ < _
    unfold pointB
    split
    · exact blkB_lt (hF.blk b (List.mem_of_getElem? hb)) ho
    · exact ho
  have HOL := Lib.hid hol
  have hk0 : (0 : Int) ≤ (k : Int) := by omega
  have hk1 : (k : Int) < (n : Int) := by omega
  have hr0 : (0 : Int) ≤ (R : Int) := by omega
  rw [hnn, hreg]
  clear hf hb hcl hF ho hol hnn hn hWs hk hba hreg
  go_enter Tryd.func17, Tryd.ntmps17
  go_wp2_with fail
  clear hW
  go_loopw [7, 8] (fun l i wr => ∃ j : Nat, j ≤ R ∧ i = .int .i64 (j : Int) ∧ IntRow W.heap.size wr l (listTo (pointB b at_ o) j) ∧ Below W.heap.size W wr) (fun _ i _ => R - (intOf i).toNat)
  case atStart => exact ⟨0, Nat.zero_le _, rfl, IntRow.nil, Below.refl _ _⟩
  case round =>
    obtain ⟨j, hj, rfl, hrow, hbel⟩ := hrel
    have HROW := Lib.hid hrow
    have HBEL := Lib.hid hbel
    have hj0 : (0 : Int) ≤ (j : Int) := by omega
    obtain ⟨la, lc, rfl⟩ := hrow.val
    obtain ⟨ln, hln⟩ : ∃ ln, (listTo (pointB b at_ o) j).length = ln := ⟨_, rfl⟩
    have HLN := Lib.hid hln
    have hll := listTo_len (pointB b at_ o) j
    rw [hln] at HROW hll ⊢
    obtain ⟨⟨x0, x1, x2, x3⟩, ⟨c0, c1, c2, c3, c4⟩, hfn, hbf⟩ := HXC.out wr hbel
    have HFN := Lib.hid hfn
    have HBF := Lib.hid hbf
    clear hrow hbel hfn hbf hln
    by_cases hlt : j < R
    · skip
      have hlt2 : (j : Int) < (R : Int) := by omega
      by_cases hal : at_ ≤ b.code.length
      · have hald : decide ((b.code.length : Int) < (at_ : Int)) = false := by simp; omega
        have hale : (at_ : Int) ≤ (b.code.length : Int) := by omega
        go_wp2_with fail
        clear x0 x1 x2 x3 c0 c1 c2 c3 c4
        refine (QV.out hal j hlt _ HFN.out).mono ?_
        rintro e w1 ⟨l, rfl, hl, hB1⟩
        have HPB : Hid (l = true ↔ (pointB b at_ o).testBit j = true) := by
          show _ ↔ _
          unfold pointB
          rw [if_pos hal]
          exact hl
        have HB1 : Hid (Below W.heap.size W w1) := below_step HBEL.out hB1
        have HROW1 : Hid (IntRow W.heap.size w1 (.slice la ln lc) (listTo (pointB b at_ o) j)) := by
          show IntRow _ _ _ _
          have h9 := HROW.out
          exact h9.keep hB1
        obtain ⟨⟨x0, x1, x2, x3⟩, ⟨c0, c1, c2, c3, c4⟩, _, _⟩ := HXC.out w1 HB1.out
        clear hl hB1
        cases l with
        | false =>
          have HNX : Hid (listTo (pointB b at_ o) (j + 1) = listTo (pointB b at_ o) j) := listTo_no (by
            cases h9 : (pointB b at_ o).testBit j with
            | false => rfl
            | true => have := HPB.out.2 h9; simp at this)
          go_wp2_with fail
          have HRN : IntRow W.heap.size w1 (.slice la ln lc) (listTo (pointB b at_ o) (j + 1)) := by rw [HNX.out]; exact HROW1.out
          exact ⟨⟨j + 1, by omega, by go_num, HRN, HB1.out⟩, by simp [intOf]; omega⟩
        | true =>
          have HNX : Hid (listTo (pointB b at_ o) (j + 1) = listTo (pointB b at_ o) j ++ [(j : Int)]) := listTo_yes (HPB.out.1 rfl)
          obtain ⟨V, hV⟩ : ∃ V : World, w1.alloc (.cells #[.int .i64 (j : Int)] 3) = V := ⟨_, rfl⟩
          have HBV : Hid (Below w1.heap.size w1 V) := by show Below _ _ _; rw [← hV]; exact (Below.refl _ _).alloc (Nat.le_refl _) _
          have HC9 : Hid (V.cell? ⟨w1.heap.size, 0, none⟩ = some (.int .i64 (j : Int))) := by show _ = _; rw [← hV]; exact World.cell?_alloc_new _ _ _ 0
          have HROWV := Lib.hid (HROW1.out.keep HBV.out)
          have HBWV : Hid (Below W.heap.size W V) := below_step HB1.out HBV.out
          go_wp2_with (at_builtin; (refine wpList_append_int _ ?g1p (.tmp 48) (.tmp 50) ?g2p W.heap.size (.slice la ln lc) (listTo (pointB b at_ o) j) w1.heap.size (j : Int) ?a1p ?a2p ?a3p ?a4p ?a5p ?a6p ?_))
          case g1p => rfl
          case g2p => rfl
          case a1p => rfl
          case a2p => rfl
          case a3p => exact HROWV.out
          case a4p => exact HC9.out
          case a5p => have := HLN.out; omega
          case a6p => exact HBWV.out.size
          clear hV
          intro v5 w5 hn5 hg5 _
          have HR5 := Lib.hid hn5
          have HB5 : Hid (Below W.heap.size W w5) := HBWV.out.grown hg5 HBWV.out.size (fun z hz => (HROWV.out.own hz).1)
          obtain ⟨va, vc, rfl⟩ := hn5.val
          clear hn5 hg5
          go_wp2_with fail
          have HRN : IntRow W.heap.size w5 (.slice va ((listTo (pointB b at_ o) j ++ [(j : Int)]).length) vc) (listTo (pointB b at_ o) (j + 1)) := by rw [HNX.out]; exact HR5.out
          exact ⟨⟨j + 1, by omega, by go_num, HRN, HB5.out⟩, by simp [intOf]; omega⟩
      · have hald : (b.code.length : Int) < (at_ : Int) := by omega
        have hale : decide ((at_ : Int) ≤ (b.code.length : Int)) = false := by simp; omega
        go_wp2_with fail
        clear x0 x1 x2 x3 c0 c1 c2 c3 c4
        refine (QL.out j hlt _ HFN.out).mono ?_
        rintro e w1 ⟨l, rfl, hl, hB1⟩
        have HPB : Hid (l = true ↔ (pointB b at_ o).testBit j = true) := by
          show _ ↔ _
          unfold pointB
          rw [if_neg hal]
          exact hl.trans (HOL.out j hlt).symm
        have HB1 : Hid (Below W.heap.size W w1) := below_step HBEL.out hB1
        have HROW1 : Hid (IntRow W.heap.size w1 (.slice la ln lc) (listTo (pointB b at_ o) j)) := by
          show IntRow _ _ _ _
          have h9 := HROW.out
          exact h9.keep hB1
        obtain ⟨⟨x0, x1, x2, x3⟩, ⟨c0, c1, c2, c3, c4⟩, _, _⟩ := HXC.out w1 HB1.out
        clear hl hB1
        cases l with
        | false =>
          have HNX : Hid (listTo (pointB b at_ o) (j + 1) = listTo (pointB b at_ o) j) := listTo_no (by
            cases h9 : (pointB b at_ o).testBit j with
            | false => rfl
            | true => have := HPB.out.2 h9; simp at this)
          go_wp2_with fail
          have HRN : IntRow W.heap.size w1 (.slice la ln lc) (listTo (pointB b at_ o) (j + 1)) := by rw [HNX.out]; exact HROW1.out
          exact ⟨⟨j + 1, by omega, by go_num, HRN, HB1.out⟩, by simp [intOf]; omega⟩
        | true =>
          have HNX : Hid (listTo (pointB b at_ o) (j + 1) = listTo (pointB b at_ o) j ++ [(j : Int)]) := listTo_yes (HPB.out.1 rfl)
          obtain ⟨V, hV⟩ : ∃ V : World, w1.alloc (.cells #[.int .i64 (j : Int)] 3) = V := ⟨_, rfl⟩
          have HBV : Hid (Below w1.heap.size w1 V) := by show Below _ _ _; rw [← hV]; exact (Below.refl _ _).alloc (Nat.le_refl _) _
          have HC9 : Hid (V.cell? ⟨w1.heap.size, 0, none⟩ = some (.int .i64 (j : Int))) := by show _ = _; rw [← hV]; exact World.cell?_alloc_new _ _ _ 0
          have HROWV := Lib.hid (HROW1.out.keep HBV.out)
          have HBWV : Hid (Below W.heap.size W V) := below_step HB1.out HBV.out
          go_wp2_with (at_builtin; (refine wpList_append_int _ ?g1q (.tmp 48) (.tmp 50) ?g2q W.heap.size (.slice la ln lc) (listTo (pointB b at_ o) j) w1.heap.size (j : Int) ?a1q ?a2q ?a3q ?a4q ?a5q ?a6q ?_))
          case g1q => rfl
          case g2q => rfl
          case a1q => rfl
          case a2q => rfl
          case a3q => exact HROWV.out
          case a4q => exact HC9.out
          case a5q => have := HLN.out; omega
          case a6q => exact HBWV.out.size
          clear hV
          intro v5 w5 hn5 hg5 _
          have HR5 := Lib.hid hn5
          have HB5 : Hid (Below W.heap.size W w5) := HBWV.out.grown hg5 HBWV.out.size (fun z hz => (HROWV.out.own hz).1)
          obtain ⟨va, vc, rfl⟩ := hn5.val
          clear hn5 hg5
          go_wp2_with fail
          have HRN : IntRow W.heap.size w5 (.slice va ((listTo (pointB b at_ o) j ++ [(j : Int)]).length) vc) (listTo (pointB b at_ o) (j + 1)) := by rw [HNX.out]; exact HR5.out
          exact ⟨⟨j + 1, by omega, by go_num, HRN, HB5.out⟩, by simp [intOf]; omega⟩
    · obtain rfl : R = j := by omega
      have HE : Hid (listTo (pointB b at_ o) R = listB (pointB b at_ o)) := listTo_end HPT.out hR
      go_wp2_with fail
      go_ret
      exact ⟨_, rfl, by rw [← HE.out]; exact ownsRow_base HROW.out HBW.out.size, HBF.out⟩
end Go.Proofs.YteknhnnlhhgppaaDoor
