/-
  Contract: awake (package ontimelaw17): the example of the chapter.
-/
import Derived.Test.YtjdfcpjlmfaaaaaIrRunC
import Derived.Test.YtjdfcpjlmfaaaaaIrLawFns
namespace Go.Proofs.Ytjdfcpjlmfaaaaa
set_option linter.unusedVariables false
set_option linter.unusedSimpArgs false
open Go.RowKit
set_option maxRecDepth 100000
set_option maxHeartbeats 8000000

def aw1 : Ins := ⟨1, 0, 0, 0, 7, ⟨#[]⟩⟩
def aw2 : Ins := ⟨1, 1, 0, 0, 2, ⟨#[]⟩⟩
def aw3 : Ins := ⟨3, 2, 0, 1, 14, ⟨#[]⟩⟩
def aw4 : Ins := ⟨10, 0, 2, 0, 3, ⟨#[]⟩⟩
def awB : Blk := ⟨[aw1, aw2, aw3, aw4], 3, 0, 0, 0⟩
def awF : Fn := ⟨⟨#[]⟩, 3, [], [awB]⟩
theorem aw_empty : (⟨#[]⟩ : ByteArray).toList = [] := by simp [ByteArray.toList_eq]
theorem aw_ok : fnOk awF [] = true := by
  simp [fnOk, awF, awB, namesOf, addArrs, addObjs, blkOk, insOk, aw1, aw2, aw3, aw4, inReg, betw, endOk, aw_empty]
theorem aw_go : runGo awF [] [] [] [] 9 = (5, 0, ⟨[7, 2, 28], [0, 0, 0, 0], [], false, ⟨#[]⟩, [(3, 28)], 0⟩) := by
  simp [runGo, awF, awB, St.init, go, step, aw1, aw2, aw3, aw4, St.setReg, St.reg, Wd.apply, Wd.err, wrap32]
theorem aw_run : runOf awF [] [] [] [] 9 = ⟨[], [], [(3, 28)], 0, 5, 0⟩ := by
  unfold runOf runFits
  rw [aw_ok, aw_go]
  rfl
theorem out_eql (W : World) (x y : Int) : (binOp .eql 80 (.agg #[.int .i64 x, .int .i32 y]) (.agg #[.int .i64 x, .int .i32 y])).run Try.prog W = .ok (.bool true) W := by
  have u3 := Try.underlying3
  have a3 := Try.isAgg3
  have z3 := Try.sizeOf3
  have u9 := Try.underlying21
  have a9 := Try.isAgg21
  have z9 := Try.sizeOf21
  have hS : Try.prog.underlying 80 = some (.struct (Try.prog.fieldsOf 80)) := by kernel_rfl
  have hp : Try.prog.stoodInHeld 80 = false := by kernel_rfl
  rw [run_eql_struct, show (10000 : Nat) = 9999 + 1 from rfl, run_equalIn_agg W 9999 80 _ _ hS hp]
  simp only [Program.fieldsOf, Try.underlying80]
  go_simp
theorem aw_wf : ∀ i ∈ awB.code, i.Wf := by
  intro i hi
  simp [awB] at hi
  rcases hi with rfl | rfl | rfl | rfl <;> exact ⟨by decide, by decide, ⟨by decide, by decide⟩, ⟨by decide, by decide⟩, ⟨by decide, by decide⟩, ⟨by decide, by decide⟩, by decide⟩
abbrev awCode : Array Value := #[.int .u8 1, .int .i64 0, .int .i64 0, .int .i64 0, .int .i64 7, .string ⟨#[]⟩, .int .u8 1, .int .i64 1, .int .i64 0, .int .i64 0, .int .i64 2, .string ⟨#[]⟩, .int .u8 3, .int .i64 2, .int .i64 0, .int .i64 1, .int .i64 14, .string ⟨#[]⟩, .int .u8 10, .int .i64 0, .int .i64 2, .int .i64 0, .int .i64 3, .string ⟨#[]⟩]
theorem aw_at {w : World} {b c : Nat} (h1 : w.heap[b]? = some (.cells awCode 60)) (h2 : w.heap[c]? = some (.cells #[.slice (some ⟨b, 0, none⟩) 4 4, .int .u8 3, .int .i64 0, .int .i64 0, .int .i64 0] 52)) : FnAt w awF none (some ⟨c, 0, none⟩) := by
  have k := cell_heap h1
  have m := cell_heap h2
  refine ⟨⟨by decide, (by intro p hp; cases hp), .inl rfl⟩, ⟨by decide, fun x hx => ?_, .inr ⟨c, 0, rfl, fun k' x hx => ?_⟩⟩, ⟨by decide, by decide⟩, by decide⟩
  · simp [awF] at hx
    subst hx
    exact ⟨by decide, by decide, ⟨by decide, by decide⟩, ⟨by decide, by decide⟩, ⟨by decide, by decide⟩⟩
  · match k', hx with
    | 0, hx =>
      cases hx
      refine ⟨some ⟨b, 0, none⟩, 4, ⟨m 0, m 1, m 2, m 3, m 4⟩, ⟨by decide, aw_wf, .inr ⟨b, 0, rfl, fun j i hi => ?_⟩⟩⟩
      match j, hi with
      | 0, hi => cases hi; exact ⟨k 0, k 1, k 2, k 3, k 4, k 5⟩
      | 1, hi => cases hi; exact ⟨k 6, k 7, k 8, k 9, k 10, k 11⟩
      | 2, hi => cases hi; exact ⟨k 12, k 13, k 14, k 15, k 16, k 17⟩
      | 3, hi => cases hi; exact ⟨k 18, k 19, k 20, k 21, k 22, k 23⟩
      | j + 4, hi => simp [awB] at hi
    | k' + 1, hx => simp [awF] at hx
theorem awake_any (w : World) : Calls Try.prog 10 #[] w fun e w' => e = .returned (.bool true) ∧ Below w.heap.size w w' := by
  obtain ⟨W, hW⟩ : ∃ W : World, ((w.alloc (.cells awCode 60)).alloc (.cells #[.slice (some ⟨w.heap.size, 0, none⟩) 4 4, .int .u8 3, .int .i64 0, .int .i64 0, .int .i64 0] 52)).alloc (.cells #[.slice (some ⟨w.heap.size, 0, none⟩) 4 4, .int .u8 3, .int .i64 0, .int .i64 0, .int .i64 0] 52) = W := ⟨_, rfl⟩
  have HBW : Hid (Below w.heap.size w W) := by show Below _ _ _; rw [← hW]; exact (((Below.refl _ _).alloc (Nat.le_refl _) _).alloc (by simp) _).alloc (by simp; omega) _
  have HFN : Hid (FnAt W awF none (some ⟨w.heap.size + 1 + 1, 0, none⟩)) := by
    show FnAt _ _ _ _
    rw [← hW]
    refine aw_at (b := w.heap.size) (c := w.heap.size + 1 + 1) ?_ ?_
    · rw [Below.heap_alloc _ _ _ (by simp; omega), Below.heap_alloc _ _ _ (by simp)]
      exact heap_new _ _
    · have := heap_new ((w.alloc (.cells awCode 60)).alloc (.cells #[.slice (some ⟨w.heap.size, 0, none⟩) 4 4, .int .u8 3, .int .i64 0, .int .i64 0, .int .i64 0] 52)) (.cells #[.slice (some ⟨w.heap.size, 0, none⟩) 4 4, .int .u8 3, .int .i64 0, .int .i64 0, .int .i64 0] 52)
      simpa using this
  have hcmp := out_eql
  go_enter Try.func10, Try.ntmps10
  go_wp2_with fail
  refine (run_any awF [] [] [] [] 9 none (some ⟨w.heap.size + 1 + 1, 0, none⟩) none none none none 0 1 0 0 0 0 W HFN.out ⟨by decide, (by intro p hp; cases hp), .inl rfl⟩ (by decide) ⟨by decide, .inl rfl⟩ ⟨by decide, .inl rfl⟩ (by intro r hr; cases hr) (by intro r hr; cases hr) ⟨by decide, (by intro p hp; cases hp), .inl rfl⟩ (by decide)).mono ?_
  rintro e w4 ⟨v, rfl, hoc, hB4⟩
  rw [aw_run] at hoc
  obtain ⟨aa, oa, ua, ac, ocp, uc, rfl, _, _, hout, _⟩ := hoc
  have HB4 := Lib.hid (HBW.out.trans (hB4.mono HBW.out.size))
  have h4 : Hid (∃ ub uo, ua = some ⟨ub, uo, none⟩ ∧ w4.cell? ⟨ub, uo, none⟩ = some (.int .i64 3) ∧ w4.cell? ⟨ub, uo + 1, none⟩ = some (.int .i32 28)) := by
    rcases hout.at_ with h0 | ⟨ub, uo, hu, hc⟩
    · cases h0
    · obtain ⟨c1, c2⟩ := hc 0 (3, 28) rfl
      exact ⟨ub, uo, hu, c1, c2⟩
  clear hB4 hout hW
  obtain ⟨ub, uo, rfl, c1, c2⟩ := h4.out
  have hub : ub < w4.heap.size := World.block_lt_of_cell? _ _ c1
  clear h4
  simp only [List.length_nil, List.length_singleton]
  go_wp2_with fail
  go_ret
  exact ⟨rfl, HB4.out.alloc HB4.out.size _⟩
end Go.Proofs.Ytjdfcpjlmfaaaaa
