/-
  Contract: reaches (package ontimeref19).
-/
import Derived.Test.YteknhnnlhhgppaaDoorMg29
import Derived.Test.YteknhnnlhhgppaaDoorLiveWork
namespace Go.Proofs.YteknhnnlhhgppaaDoor
set_option linter.unusedVariables false
set_option linter.unusedSimpArgs false
open Go.RowKit
set_option maxRecDepth 100000
set_option maxHeartbeats 16000000

/-- the answer: a use is found | the end is reached -/
def ReachOk (R : Nat) (b : Blk) (at_ r : Nat) (u e : Bool) : Prop := (u = true → e = false) ∧ ∀ s, s < 2 ^ R → (blkB b at_ s).testBit r = (u || (e && s.testBit r))
def ReachEnd (R : Nat) (b : Blk) (at_ r : Nat) (w : World) (e : Ending) (w' : World) : Prop := ∃ u en : Bool, e = .returned (.tuple #[.bool u, .bool en]) ∧ ReachOk R b at_ r u en ∧ Below w.heap.size w w'
theorem blkB_past {b : Blk} {k s : Nat} (h : b.code.length ≤ k) : blkB b k s = lastB b s := by
  unfold blkB
  rw [List.drop_eq_nil_of_le h]
  rfl
theorem reaches_any (f : Fn) (aa ba : Option Addr) (ac bc R k at_ r : Nat) (b : Blk) (w : World) (hf : FnAt w f aa ba) (hn : f.blocks.length ≤ 1000) (hb : f.blocks[k]? = some b) (hc : b.code.length ≤ 1000000) (hat : at_ ≤ b.code.length) (hF : FormR f R) (hr : r < R) :
    Calls Tryd.prog 79 #[fnVal f.name f.regs aa f.arrays.length ac ba f.blocks.length bc, .int .i64 (k : Int), .int .i64 (at_ : Int), .int .i64 (r : Int)] w (ReachEnd R b at_ r w) := by
  have HF := Lib.hid hf
  have HB := Lib.hid hb
  have HBRK := Lib.hid (hF.blk b (List.mem_of_getElem? hb))
  have HFEW := Lib.hid hF.few
  have HRR := Lib.hid hr
  obtain ⟨n, hnn⟩ : ∃ n, f.blocks.length = n := ⟨_, rfl⟩
  have HN := Lib.hid hnn
  have hkn : k < n := by have := (List.getElem?_eq_some_iff.1 hb).1; omega
  obtain ⟨W, hW⟩ : ∃ W : World, w.alloc (.cells #[.string f.name, .int .i64 f.regs, .slice aa f.arrays.length ac, .slice ba n bc] 36) = W := ⟨_, rfl⟩
  have hWs : W.heap.size = w.heap.size + 1 := by rw [← hW]; simp
  have HBW : Hid (Below w.heap.size w W) := by show Below _ _ _; rw [← hW]; exact (Below.refl _ _).alloc (Nat.le_refl _) _
  have HX : Hid (W.heap[w.heap.size]? = some (.cells #[.string f.name, .int .i64 f.regs, .slice aa f.arrays.length ac, .slice ba n bc] 36)) := by
    show _ = _
    rw [← hW]
    exact (MapKept.heap_alloc w _).1
  rcases hf.blocks.at_ with hz | ⟨bb, off, rfl, hk⟩
  · omega
  obtain ⟨ca, cc, hba, hcode⟩ := hk k b hb
  have HBA := Lib.hid hba
  have HXC : Hid (∀ w', Below W.heap.size W w' → (w'.cell? ⟨w.heap.size, 0, none⟩ = some (.string f.name) ∧ w'.cell? ⟨w.heap.size, 1, none⟩ = some (.int .i64 f.regs) ∧ w'.cell? ⟨w.heap.size, 2, none⟩ = some (.slice aa f.arrays.length ac) ∧ w'.cell? ⟨w.heap.size, 3, none⟩ = some (.slice (some ⟨bb, off, none⟩) n bc)) ∧ BlkAt w' bb (off + k * 5) b ca cc ∧ FnAt w' f aa (some ⟨bb, off, none⟩) ∧ Below w.heap.size w w') := fun w' h => by
    have h9 := (h.block _ (show w.heap.size < W.heap.size by omega)).trans HX.out
    have h7 := HBW.out.trans (h.mono HBW.out.size)
    exact ⟨⟨cell_heap h9 0, cell_heap h9 1, cell_heap h9 2, cell_heap h9 3⟩, HBA.out.below h7, HF.out.below h7, h7⟩
  have QU : Hid (∀ i, i ≤ b.code.length → ∀ w', FnAt w' f aa (some ⟨bb, off, none⟩) → Calls Tryd.prog 87 #[.agg #[.string f.name, .int .i64 f.regs, .slice aa f.arrays.length ac, .slice (some ⟨bb, off, none⟩) n bc], .int .i64 (k : Int), .int .i64 (i : Int), .int .i64 (r : Int)] w' (Tells (UseAt b i r) w')) := fun i hi w' hw => by
    have h9 := uses19_any f aa (some ⟨bb, off, none⟩) ac bc k i r b w' hw hn HB.out hc hi
    rw [HN.out] at h9
    exact h9
  have QD : Hid (∀ i, i ≤ b.code.length → ∀ w', FnAt w' f aa (some ⟨bb, off, none⟩) → Calls Tryd.prog 72 #[.agg #[.string f.name, .int .i64 f.regs, .slice aa f.arrays.length ac, .slice (some ⟨bb, off, none⟩) n bc], .int .i64 (k : Int), .int .i64 (i : Int), .int .i64 (r : Int)] w' (Tells (DefAt b i r) w')) := fun i hi w' hw => by
    have h9 := defines19_any f aa (some ⟨bb, off, none⟩) ac bc k i r b w' hw hn HB.out hc hi
    rw [HN.out] at h9
    exact h9
  have hk0 : (0 : Int) ≤ (k : Int) := by omega
  have hk1 : (k : Int) < (n : Int) := by omega
  have ha0 : (0 : Int) ≤ (at_ : Int) := by omega
  have hc0 : (0 : Int) ≤ (b.code.length : Int) := by omega
  rw [hnn]
  clear hf hb hF hk hba hcode hnn hn hWs hr
  go_enter Tryd.func79, Tryd.ntmps79
  go_wp2_with fail
  clear hW
  go_loopw [10] (fun i wr => ∃ j : Nat, at_ ≤ j ∧ j ≤ b.code.length + 1 ∧ i = .int .i64 (j : Int) ∧ (∀ s, s < 2 ^ R → (blkB b at_ s).testBit r = if j = b.code.length + 1 then s.testBit r else (blkB b j s).testBit r) ∧ Below W.heap.size W wr) (fun i _ => b.code.length + 1 - (intOf i).toNat)
  case atStart => exact ⟨at_, Nat.le_refl _, by omega, rfl, fun s _ => by rw [if_neg (by omega)], Below.refl _ _⟩
  case round =>
    obtain ⟨j, hja, hj, rfl, hall, hbel⟩ := hrel
    have HALL := Lib.hid hall
    have HBEL := Lib.hid hbel
    have hj0 : (0 : Int) ≤ (j : Int) := by omega
    obtain ⟨⟨x0, x1, x2, x3⟩, ⟨c0, c1, c2, c3, c4⟩, hfn, hbf⟩ := HXC.out wr hbel
    have HFN := Lib.hid hfn
    have HBF := Lib.hid hbf
    clear hall hbel hfn hbf
    by_cases hlt : j ≤ b.code.length
    · have hlt2 : (j : Int) ≤ (b.code.length : Int) := by omega
      go_wp2_with fail
      clear x0 x1 x2 x3 c0 c1 c2 c3 c4
      refine (QU.out j hlt _ HFN.out).mono ?_
      rintro e w1 ⟨u, rfl, hu, hB1⟩
      have HU := Lib.hid hu
      have HB1 : Hid (Below W.heap.size W w1) := below_step HBEL.out hB1
      clear hu hB1
      obtain ⟨⟨x0, x1, x2, x3⟩, ⟨c0, c1, c2, c3, c4⟩, hfn, hbf⟩ := HXC.out w1 HB1.out
      have HFN1 := Lib.hid hfn
      have HBF1 := Lib.hid hbf
      clear hfn hbf
      cases u with
      | true =>
        have HOK : Hid (ReachOk R b at_ r true false) := by
          refine ⟨fun _ => rfl, fun s hs => ?_⟩
          rw [HALL.out s hs, if_neg (by omega)]
          show _ = true
          have h9 := HU.out.1 rfl
          unfold UseAt at h9
          split at h9
          · rename_i he
            subst he
            rw [blkB_end, lastB_bit HBRK.out.fin, Bool.or_eq_true]
            exact .inr (by simpa using h9)
          · obtain ⟨i, hi, h9⟩ := h9
            rw [blkB_step hi, backB_bit (HBRK.out.ins i (List.mem_of_getElem? hi)).2.2 HFEW.out (blkB_lt HBRK.out hs), Bool.or_eq_true]
            exact .inr (by simpa using h9)
        go_wp2_with fail
        go_ret2
        exact ⟨true, false, rfl, HOK.out, HBF1.out⟩
      | false =>
        have HNU : Hid (¬ UseAt b j r) := fun h => by have := HU.out.2 h; simp at this
        go_wp2_with fail
        clear x0 x1 x2 x3 c0 c1 c2 c3 c4
        refine (QD.out j hlt _ HFN1.out).mono ?_
        rintro e w2 ⟨d, rfl, hd, hB2⟩
        have HD := Lib.hid hd
        have HB2 : Hid (Below W.heap.size W w2) := below_step HB1.out hB2
        have HBF2 : Hid (Below w.heap.size w w2) := HBW.out.trans (HB2.out.mono HBW.out.size)
        clear hd hB2
        cases d with
        | true =>
          have HOK : Hid (ReachOk R b at_ r false false) := by
            refine ⟨fun h => by simp at h, fun s hs => ?_⟩
            rw [HALL.out s hs, if_neg (by omega)]
            show _ = false
            obtain ⟨i, hi, h9⟩ := HD.out.1 rfl
            rw [blkB_step hi, backB_bit (HBRK.out.ins i (List.mem_of_getElem? hi)).2.2 HFEW.out (blkB_lt HBRK.out hs)]
            have h8 : ¬ (r : Int) ∈ i.uses := fun h => HNU.out (by unfold UseAt; rw [if_neg (by have := (List.getElem?_eq_some_iff.1 hi).1; omega)]; exact ⟨i, hi, h⟩)
            simp [h9, h8]
          go_wp2_with fail
          go_ret2
          exact ⟨false, false, rfl, HOK.out, HBF2.out⟩
        | false =>
          have HND : Hid (¬ DefAt b j r) := fun h => by have := HD.out.2 h; simp at this
          have HNX : Hid (∀ s, s < 2 ^ R → (blkB b at_ s).testBit r = if j + 1 = b.code.length + 1 then s.testBit r else (blkB b (j + 1) s).testBit r) := fun s hs => by
            rw [HALL.out s hs, if_neg (by omega)]
            by_cases he : j = b.code.length
            · subst he
              rw [if_pos rfl, blkB_end, lastB_bit HBRK.out.fin]
              have h8 : ¬ (b.kind = 2 ∧ b.x = (r : Int)) := fun h => HNU.out (by unfold UseAt; rw [if_pos rfl]; exact h)
              simp only [h8, decide_false, Bool.or_false]
            · rw [if_neg (by omega)]
              obtain ⟨i, hi⟩ : ∃ i, b.code[j]? = some i := ⟨_, List.getElem?_eq_getElem (by omega)⟩
              rw [blkB_step hi, backB_bit (HBRK.out.ins i (List.mem_of_getElem? hi)).2.2 HFEW.out (blkB_lt HBRK.out hs)]
              have h8 : ¬ (r : Int) ∈ i.uses := fun h => HNU.out (by unfold UseAt; rw [if_neg he]; exact ⟨i, hi, h⟩)
              have h7 : ¬ i.defines = some (r : Int) := fun h => HND.out ⟨i, hi, h⟩
              simp [h8, h7]
          go_wp2_with fail
          exact ⟨⟨j + 1, by omega, by omega, by go_num, HNX.out, HB2.out⟩, by simp [intOf]; omega⟩
    · obtain rfl : j = b.code.length + 1 := by omega
      have hgt : decide ((b.code.length : Int) + 1 ≤ (b.code.length : Int)) = false := by simp; omega
      have HOK : Hid (ReachOk R b at_ r false true) := ⟨fun h => by simp at h, fun s hs => by rw [HALL.out s hs, if_pos rfl]; simp⟩
      have HBF9 := HBF
      go_wp2_with fail
      go_ret2
      exact ⟨false, true, rfl, HOK.out, HBF9.out⟩
end Go.Proofs.YteknhnnlhhgppaaDoor
