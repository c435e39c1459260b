/-
  Contract: instruction (package ir: runner), operation by operation.
-/
import Derived.Test.YteknhnnlhhgppaaDoorIrStep
import Derived.BigRegion
import Derived.Deep.QuietTactic
import Derived.BigQuiet
import Derived.Test.YteknhnnlhhgppaaDoorMg8
import Derived.Deep.RegionLaw
import Derived.Deep.RegionHeld
import Derived.OrdersHeld
namespace Go.Proofs.YteknhnnlhhgppaaDoor
set_option linter.unusedVariables false
set_option linter.unusedSimpArgs false
open Go.RowKit
set_option maxRecDepth 100000
set_option maxHeartbeats 4000000
theorem Tryd.infoOut : (Tryd.prog.info? 118).map (fun i => (i.zero, i.size, i.bytes)) = some (some (.agg #[.int .i64 0, .int .i32 0]), 2, 16) := by kernel_rfl
theorem out_new (w : World) (u v : Value) : ∀ (j : Nat) (x : Value), [u, v][j]? = some x → (w.alloc (.cells #[u, v] 118)).cell? ((⟨w.heap.size, 0, none⟩ : Addr).add j) = some x := by
  intro j x hx
  match j, hx with
  | 0, hx => cases hx; exact World.cell?_alloc_new _ _ _ 0
  | 1, hx => cases hx; exact World.cell?_alloc_new _ _ _ 1
/-- what the statement reads, apart from the outputs -/
def S10 (g : Geo) (b : Nat) (x : Nat) (imm : Int) (s : St) (w : World) : Prop := w.cell? ⟨b, 2, none⟩ = some (.int .i64 (x : Int)) ∧ w.cell? ⟨b, 4, none⟩ = some (.int .i64 imm) ∧ w.cell? ⟨g.rb, 0, none⟩ = some (.slice (some ⟨g.rg, 0, none⟩) s.regs.length s.regs.length) ∧ w.cell? ⟨g.rg, x, none⟩ = some (.int .i32 (s.reg x))


theorem instr_10 (N : Nat) (g : Geo) (names : List ByteArray) (inp : List Int) (d : Int) (x : Nat) (y : Int) (imm : Int) (sym : ByteArray) (w : World) (ov : Value) (s : St) (h : RunAt N g names w ov s) (hx : x < s.regs.length) (hol : s.out.length < 8000000000) :
    Calls Tryd.prog 108 #[.pointer (some ⟨g.rb, 0, none⟩), Ins.val ⟨10, d, ((x : Nat) : Int), y, imm, sym⟩] w (StepOk N g names ov s w (step names inp ⟨10, d, ((x : Nat) : Int), y, imm, sym⟩ s)) := by
  obtain ⟨W, hW⟩ : ∃ W : World, w.alloc (.cells #[.int .u8 10, .int .i64 d, .int .i64 ((x : Nat) : Int), .int .i64 y, .int .i64 imm, .string sym] 54) = W := ⟨_, rfl⟩
  have hB : Below w.heap.size w W := by rw [← hW]; exact (Below.refl _ _).alloc (Nat.le_refl _) _
  have hWs : W.heap.size = w.heap.size + 1 := by rw [← hW]; simp
  have HR := Lib.hid (h.keep hB)
  have HF := Lib.hid (Frame.of_below (g := g) (ov := ov) hB)
  have i0 : W.cell? ⟨w.heap.size, 0, none⟩ = some (.int .u8 10) := by rw [← hW]; simp
  have i1 : W.cell? ⟨w.heap.size, 1, none⟩ = some (.int .i64 d) := by rw [← hW]; simp
  have i2 : W.cell? ⟨w.heap.size, 2, none⟩ = some (.int .i64 ((x : Nat) : Int)) := by rw [← hW]; simp
  have i3 : W.cell? ⟨w.heap.size, 3, none⟩ = some (.int .i64 y) := by rw [← hW]; simp
  have i4 : W.cell? ⟨w.heap.size, 4, none⟩ = some (.int .i64 imm) := by rw [← hW]; simp
  have i5 : W.cell? ⟨w.heap.size, 5, none⟩ = some (.string sym) := by rw [← hW]; simp
  have r0 : W.cell? ⟨g.rb, 0, none⟩ = some (.slice (some ⟨g.rg, 0, none⟩) s.regs.length s.regs.length) := HR.out.cell 0
  have r9 : W.cell? ⟨g.rb, 9, none⟩ = some (ov) := HR.out.cell 9
  have z9 : W.frozen? ⟨g.rb, 9, none⟩ = false := frozen_heap HR.out.run 9
  have vx := HR.out.reg hx
  have zx : W.frozen? ⟨g.rg, x, none⟩ = false := frozen_heap HR.out.regs x
  have x0 : (0 : Int) ≤ (x : Int) := by omega
  have x1 : (x : Int) < (s.regs.length : Int) := by omega
  have wx := HR.out.regw hx
  have x2 := wx.1
  have x3 := wx.2
  have Kx := Lib.hid wx
  clear wx
  have HH := Lib.hid h
  clear h hB
  unfold Ins.val
  go_enter Tryd.func108, Tryd.ntmps108
  go_wp2_with fail
  clear hW
  have HO := Lib.hid HR.out.out
  obtain ⟨i0, hi, hz0, hz1, hz2⟩ := info_parts Tryd.infoOut
  have hb9 : g.rb < W.heap.size := lt_heap HR.out.run
  have hg9 : g.rg < W.heap.size := lt_heap HR.out.regs
  have hw9 : w.heap.size < W.heap.size := by omega
  have HS : Hid (∀ w', (∀ k, k < W.heap.size → (k = g.rb ∨ k = g.rg ∨ k = w.heap.size) → ∀ o, (k = g.rb → o ≠ 9) → w'.cell? ⟨k, o, none⟩ = W.cell? ⟨k, o, none⟩) → S10 g w.heap.size x imm s w') := fun w' hh => ⟨(hh _ hw9 (.inr (.inr rfl)) 2 (fun e => by omega)).trans i2, (hh _ hw9 (.inr (.inr rfl)) 4 (fun e => by omega)).trans i4, (hh _ hb9 (.inl rfl) 0 (fun _ => by omega)).trans r0, (hh _ hg9 (.inr (.inl rfl)) x (fun e => absurd e.symm HR.out.ne1)).trans vx⟩
  clear hWs z9 zx i1 i3 i5
  refine wp_region_held_drew (S := S10 g w.heap.size x imm s) (by kernel_rfl) (HS.out _ (fun _ _ _ _ _ => rfl)) (fun hHeld => ?_)
  have HBD : Hid (Below W.heap.size W W.drew) := (Below.refl _ _).drew
  have HOD : Hid (W.drew.ownsRow N 118 2 ov s.out.length (outs s.out)) := ownsRow_move HO.out (fun _ _ _ => rfl)
  generalize hwd : W.drew = D at hHeld HBD HOD ⊢
  have r9' : D.cell? ⟨g.rb, 9, none⟩ = some ov := by rw [← hwd]; exact r9
  have hDs : D.heap.size = W.heap.size := by rw [← hwd]; rfl
  clear hwd
  refine wpAnyH_take (i := 0) (v := .pointer (some ⟨g.rb, 0, none⟩)) rfl (by kernel_rfl) (by kernel_rfl) (by kernel_rfl) (fun _ _ _ h => h) (Or.inl ⟨by rfl, ?_⟩) (by assumption) ?_
  · intro w' hSw; go_simp
  (try simp only [Act.put, List.getElem_toArray, List.getElem_cons_zero, List.setIfInBounds_toArray, List.set_cons_zero, List.set_cons_succ])
  refine wpAnyH_take (i := 1) (v := .pointer (some ⟨g.rb, 0, none⟩)) rfl (by kernel_rfl) (by kernel_rfl) (by kernel_rfl) (fun _ _ _ h => h) (Or.inl ⟨by rfl, ?_⟩) (by assumption) ?_
  · intro w' hSw; go_simp
  (try simp only [Act.put, List.getElem_toArray, List.getElem_cons_zero, List.getElem_cons_succ, List.setIfInBounds_toArray, List.set_cons_zero, List.set_cons_succ])
  refine wpAnyH_take (i := 2) (v := .pointer (some ⟨g.rb, 0, none⟩)) rfl (by kernel_rfl) (by kernel_rfl) (by kernel_rfl) (fun _ _ _ h => h) (Or.inl ⟨by rfl, ?_⟩) (by assumption) ?_
  · intro w' hSw; go_simp
  (try simp only [Act.put, List.getElem_toArray, List.getElem_cons_zero, List.getElem_cons_succ, List.setIfInBounds_toArray, List.set_cons_zero, List.set_cons_succ])
  refine wpAnyH_take (i := 3) (v := .pointer (some ⟨g.rb, 9, none⟩)) rfl (by kernel_rfl) (by kernel_rfl) (by kernel_rfl) (fun _ _ _ h => h) (Or.inl ⟨by rfl, ?_⟩) (by assumption) ?_
  · intro w' hSw; go_simp
  (try simp only [Act.put, List.getElem_toArray, List.getElem_cons_zero, List.getElem_cons_succ, List.setIfInBounds_toArray, List.set_cons_zero, List.set_cons_succ])
  refine wpAnyH_take (i := 5) (v := .pointer (some ⟨w.heap.size, 4, none⟩)) rfl (by kernel_rfl) (by kernel_rfl) (by kernel_rfl) (fun _ _ _ h => h) (Or.inl ⟨by rfl, ?_⟩) (by assumption) ?_
  · intro w' hSw; go_simp
  (try simp only [Act.put, List.getElem_toArray, List.getElem_cons_zero, List.getElem_cons_succ, List.setIfInBounds_toArray, List.set_cons_zero, List.set_cons_succ])
  refine wpAnyH_take (i := 6) (v := .int .i64 imm) rfl (by kernel_rfl) (by kernel_rfl) (by kernel_rfl) (fun _ _ _ h => h) (Or.inl ⟨by rfl, ?_⟩) (by assumption) ?_
  · intro w' hSw; obtain ⟨s1, s2, s3, s4⟩ := hSw; go_simp
  (try simp only [Act.put, List.getElem_toArray, List.getElem_cons_zero, List.getElem_cons_succ, List.setIfInBounds_toArray, List.set_cons_zero, List.set_cons_succ])
  refine wpAnyH_take (i := 7) (v := .pointer (some ⟨g.rb, 0, none⟩)) rfl (by kernel_rfl) (by kernel_rfl) (by kernel_rfl) (fun _ _ _ h => h) (Or.inl ⟨by rfl, ?_⟩) (by assumption) ?_
  · intro w' hSw; go_simp
  (try simp only [Act.put, List.getElem_toArray, List.getElem_cons_zero, List.getElem_cons_succ, List.setIfInBounds_toArray, List.set_cons_zero, List.set_cons_succ])
  refine wpAnyH_take (i := 8) (v := .pointer (some ⟨g.rb, 0, none⟩)) rfl (by kernel_rfl) (by kernel_rfl) (by kernel_rfl) (fun _ _ _ h => h) (Or.inl ⟨by rfl, ?_⟩) (by assumption) ?_
  · intro w' hSw; go_simp
  (try simp only [Act.put, List.getElem_toArray, List.getElem_cons_zero, List.getElem_cons_succ, List.setIfInBounds_toArray, List.set_cons_zero, List.set_cons_succ])
  refine wpAnyH_take (i := 9) (v := .pointer (some ⟨g.rb, 0, none⟩)) rfl (by kernel_rfl) (by kernel_rfl) (by kernel_rfl) (fun _ _ _ h => h) (Or.inl ⟨by rfl, ?_⟩) (by assumption) ?_
  · intro w' hSw; go_simp
  (try simp only [Act.put, List.getElem_toArray, List.getElem_cons_zero, List.getElem_cons_succ, List.setIfInBounds_toArray, List.set_cons_zero, List.set_cons_succ])
  refine wpAnyH_take (i := 10) (v := .slice (some ⟨g.rg, 0, none⟩) s.regs.length s.regs.length) rfl (by kernel_rfl) (by kernel_rfl) (by kernel_rfl) (fun _ _ _ h => h) (Or.inl ⟨by rfl, ?_⟩) (by assumption) ?_
  · intro w' hSw; obtain ⟨s1, s2, s3, s4⟩ := hSw; go_simp
  (try simp only [Act.put, List.getElem_toArray, List.getElem_cons_zero, List.getElem_cons_succ, List.setIfInBounds_toArray, List.set_cons_zero, List.set_cons_succ])
  refine wpAnyH_take (i := 11) (v := .pointer (some ⟨w.heap.size, 2, none⟩)) rfl (by kernel_rfl) (by kernel_rfl) (by kernel_rfl) (fun _ _ _ h => h) (Or.inl ⟨by rfl, ?_⟩) (by assumption) ?_
  · intro w' hSw; go_simp
  (try simp only [Act.put, List.getElem_toArray, List.getElem_cons_zero, List.getElem_cons_succ, List.setIfInBounds_toArray, List.set_cons_zero, List.set_cons_succ])
  refine wpAnyH_take (i := 12) (v := .int .i64 (x : Int)) rfl (by kernel_rfl) (by kernel_rfl) (by kernel_rfl) (fun _ _ _ h => h) (Or.inl ⟨by rfl, ?_⟩) (by assumption) ?_
  · intro w' hSw; obtain ⟨s1, s2, s3, s4⟩ := hSw; go_simp
  (try simp only [Act.put, List.getElem_toArray, List.getElem_cons_zero, List.getElem_cons_succ, List.setIfInBounds_toArray, List.set_cons_zero, List.set_cons_succ])
  refine wpAnyH_take (i := 13) (v := .pointer (some ⟨g.rg, x, none⟩)) rfl (by kernel_rfl) (by kernel_rfl) (by kernel_rfl) (fun _ _ _ h => h) (Or.inl ⟨by rfl, ?_⟩) (by assumption) ?_
  · intro w' hSw; go_simp
  (try simp only [Act.put, List.getElem_toArray, List.getElem_cons_zero, List.getElem_cons_succ, List.setIfInBounds_toArray, List.set_cons_zero, List.set_cons_succ])
  refine wpAnyH_take (i := 14) (v := .int .i32 (s.reg x)) rfl (by kernel_rfl) (by kernel_rfl) (by kernel_rfl) (fun _ _ _ h => h) (Or.inl ⟨by rfl, ?_⟩) (by assumption) ?_
  · intro w' hSw; obtain ⟨s1, s2, s3, s4⟩ := hSw; go_simp
  (try simp only [Act.put, List.getElem_toArray, List.getElem_cons_zero, List.getElem_cons_succ, List.setIfInBounds_toArray, List.set_cons_zero, List.set_cons_succ])
  refine wpAnyH_take (i := 15) (v := .agg #[.int .i64 imm, .int .i32 (s.reg x)]) rfl (by kernel_rfl) (by kernel_rfl) (by kernel_rfl) (fun _ _ _ h => h) (Or.inl ⟨by rfl, ?_⟩) (by assumption) ?_
  · intro w' hSw; go_simp
  (try simp only [Act.put, List.getElem_toArray, List.getElem_cons_zero, List.getElem_cons_succ, List.setIfInBounds_toArray, List.set_cons_zero, List.set_cons_succ])
  refine wpAnyH_ready (rs := [4, 16]) (by kernel_rfl) (by simp) (AllReadyH.cons rfl (fun K hK => ?_) (AllReadyH.cons rfl (fun K hK => ?_) AllReadyH.nil))
  · go_simp
    refine hK.out _ _ (hHeld) (fun hHeld => ?_)
    clear hK K
    rename_i hOld
    clear hOld
    (try simp only [Act.put, List.getElem_toArray, List.getElem_cons_zero, List.getElem_cons_succ, List.setIfInBounds_toArray, List.set_cons_zero, List.set_cons_succ])
    refine wpAnyH_ready (rs := [16]) (by kernel_rfl) (by simp) (AllReadyH.cons rfl (fun K hK => ?_) AllReadyH.nil)
    go_simp
    have HBA := Lib.hid (HBD.out.alloc (by omega) (.cells #[.int .i64 imm, .int .i32 (s.reg x)] 118))
    refine hK.out _ _ (HS.out _ (fun k hk hk1 o ho => HBA.out.cell (p := ⟨k, o, none⟩) hk)) (fun hHeld => ?_)
    clear hK K
    rename_i hOld
    clear hOld
    (try simp only [Act.put, List.getElem_toArray, List.getElem_cons_zero, List.getElem_cons_succ, List.setIfInBounds_toArray, List.set_cons_zero, List.set_cons_succ])
    refine wpAnyH_ready (rs := [17]) (by kernel_rfl) (by simp) (AllReadyH.cons rfl (fun K hK => ?_) AllReadyH.nil)
    refine step_append_row rfl (.tmp 152) (.tmp 164) 109 rfl N 118 i0 _ 2 16 Tryd.underlying109 hi hz0 hz1 hz2 rfl (by decide) ov s.out.length (outs s.out) (by simp [Act.eval]) (HOD.out.alloc _) ⟨D.heap.size, 0, none⟩ 1 1 [.int .i64 imm, .int .i32 (s.reg x)] (by simp [Act.eval]) rfl (out_new D _ _) (by simp [Value.oneCell']) (by decide) (by unfold maxLen; omega) (by omega) (by have := HR.out.rb_; simp; omega) ?_
    intro gb cap w2 hown2 hgrow hplace
    have q9 : w2.cell? ⟨g.rb, 9, none⟩ = some ov := (cell_heap ((HR.out.grown HBA.out hgrow (lt_heap HR.out.run) HR.out.one.1).trans HR.out.run) 9)
    have y9 : w2.frozen? ⟨g.rb, 9, none⟩ = false := frozen_heap ((HR.out.grown HBA.out hgrow (lt_heap HR.out.run) HR.out.one.1).trans HR.out.run) 9
    have hold : ∀ k, k < W.heap.size → (k = g.rb ∨ k = g.rg ∨ k = w.heap.size) → w2.heap[k]? = W.heap[k]? := fun k hk hk1 => HR.out.grown HBA.out hgrow hk (by rcases hk1 with rfl | rfl | rfl; exact HR.out.one.1; exact HR.out.one.2.1; exact fun e => absurd (ownsRow_lt HH.out.out e).2 (Nat.lt_irrefl _))
    have HO2 := Lib.hid hown2
    have HG2 := Lib.hid hgrow
    have HP2 := Lib.hid hplace
    have HOLD := Lib.hid hold
    clear hown2 hgrow hplace hold
    refine hK.out _ _ (HS.out _ (fun k hk hk1 o ho => World.cell?_of_block (a := ⟨k, o, none⟩) (HOLD.out k hk hk1))) (fun hHeld => ?_)
    clear hK K
    rename_i hOld
    clear hOld
    (try simp only [Act.put, List.getElem_toArray, List.getElem_cons_zero, List.getElem_cons_succ, List.setIfInBounds_toArray, List.set_cons_zero, List.set_cons_succ])
    refine wpAnyH_take (i := 18) (v := .pointer (some ⟨g.rb, 0, none⟩)) rfl (by kernel_rfl) (by kernel_rfl) (by kernel_rfl) (fun _ _ _ h => h) (Or.inl ⟨by rfl, ?_⟩) (by assumption) ?_
    · intro w' hSw; go_simp
    (try simp only [Act.put, List.getElem_toArray, List.getElem_cons_zero, List.getElem_cons_succ, List.setIfInBounds_toArray, List.set_cons_zero, List.set_cons_succ])
    refine wpAnyH_take (i := 19) (v := .pointer (some ⟨g.rb, 9, none⟩)) rfl (by kernel_rfl) (by kernel_rfl) (by kernel_rfl) (fun _ _ _ h => h) (Or.inl ⟨by rfl, ?_⟩) (by assumption) ?_
    · intro w' hSw; go_simp
    (try simp only [Act.put, List.getElem_toArray, List.getElem_cons_zero, List.getElem_cons_succ, List.setIfInBounds_toArray, List.set_cons_zero, List.set_cons_succ])
    refine wpAnyH_ready (rs := [20]) (by kernel_rfl) (by simp) (AllReadyH.cons rfl (fun K hK => ?_) AllReadyH.nil)
    go_simp
    refine hK.out _ _ (HS.out _ (fun k hk hk1 o ho => ?_)) (fun hHeld => ?_)
    · by_cases hkb : k = g.rb
      · rw [World.cell?_setCell_other _ _ _ _ (fun e => by injection e with e1 e2; exact ho hkb e2.symm)]
        exact World.cell?_of_block (a := ⟨k, o, none⟩) (HOLD.out k hk hk1)
      · rw [World.cell?_setCell_other _ _ _ _ (fun e => by injection e with e1; exact hkb e1.symm)]
        exact World.cell?_of_block (a := ⟨k, o, none⟩) (HOLD.out k hk hk1)
    · refine wpAnyH_done (by kernel_rfl) ?_ _
      go_wp2_with fail
      go_ret
      exact StepOk.ok step_10 (HR.out.push HBA.out HG2.out HO2.out HP2.out) (HF.out.trans (HR.out.pushFrame HBA.out HG2.out HP2.out _ _ _)) rfl rfl rfl rfl
  · go_simp
    have HBA := Lib.hid (HBD.out.alloc (by omega) (.cells #[.int .i64 imm, .int .i32 (s.reg x)] 118))
    have r9a := (HBA.out.cell (p := ⟨g.rb, 9, none⟩) hb9).trans r9
    refine hK.out _ _ (HS.out _ (fun k hk hk1 o ho => HBA.out.cell (p := ⟨k, o, none⟩) hk)) (fun hHeld => ?_)
    clear hK K
    rename_i hOld
    clear hOld
    (try simp only [Act.put, List.getElem_toArray, List.getElem_cons_zero, List.getElem_cons_succ, List.setIfInBounds_toArray, List.set_cons_zero, List.set_cons_succ])
    refine wpAnyH_ready (rs := [4]) (by kernel_rfl) (by simp) (AllReadyH.cons rfl (fun K hK => ?_) AllReadyH.nil)
    go_simp
    refine hK.out _ _ (hHeld) (fun hHeld => ?_)
    clear hK K
    rename_i hOld
    clear hOld
    (try simp only [Act.put, List.getElem_toArray, List.getElem_cons_zero, List.getElem_cons_succ, List.setIfInBounds_toArray, List.set_cons_zero, List.set_cons_succ])
    refine wpAnyH_ready (rs := [17]) (by kernel_rfl) (by simp) (AllReadyH.cons rfl (fun K hK => ?_) AllReadyH.nil)
    refine step_append_row rfl (.tmp 152) (.tmp 164) 109 rfl N 118 i0 _ 2 16 Tryd.underlying109 hi hz0 hz1 hz2 rfl (by decide) ov s.out.length (outs s.out) (by simp [Act.eval]) (HOD.out.alloc _) ⟨D.heap.size, 0, none⟩ 1 1 [.int .i64 imm, .int .i32 (s.reg x)] (by simp [Act.eval]) rfl (out_new D _ _) (by simp [Value.oneCell']) (by decide) (by unfold maxLen; omega) (by omega) (by have := HR.out.rb_; simp; omega) ?_
    intro gb cap w2 hown2 hgrow hplace
    have q9 : w2.cell? ⟨g.rb, 9, none⟩ = some ov := (cell_heap ((HR.out.grown HBA.out hgrow (lt_heap HR.out.run) HR.out.one.1).trans HR.out.run) 9)
    have y9 : w2.frozen? ⟨g.rb, 9, none⟩ = false := frozen_heap ((HR.out.grown HBA.out hgrow (lt_heap HR.out.run) HR.out.one.1).trans HR.out.run) 9
    have hold : ∀ k, k < W.heap.size → (k = g.rb ∨ k = g.rg ∨ k = w.heap.size) → w2.heap[k]? = W.heap[k]? := fun k hk hk1 => HR.out.grown HBA.out hgrow hk (by rcases hk1 with rfl | rfl | rfl; exact HR.out.one.1; exact HR.out.one.2.1; exact fun e => absurd (ownsRow_lt HH.out.out e).2 (Nat.lt_irrefl _))
    have HO2 := Lib.hid hown2
    have HG2 := Lib.hid hgrow
    have HP2 := Lib.hid hplace
    have HOLD := Lib.hid hold
    clear hown2 hgrow hplace hold
    refine hK.out _ _ (HS.out _ (fun k hk hk1 o ho => World.cell?_of_block (a := ⟨k, o, none⟩) (HOLD.out k hk hk1))) (fun hHeld => ?_)
    clear hK K
    rename_i hOld
    clear hOld
    (try simp only [Act.put, List.getElem_toArray, List.getElem_cons_zero, List.getElem_cons_succ, List.setIfInBounds_toArray, List.set_cons_zero, List.set_cons_succ])
    refine wpAnyH_take (i := 18) (v := .pointer (some ⟨g.rb, 0, none⟩)) rfl (by kernel_rfl) (by kernel_rfl) (by kernel_rfl) (fun _ _ _ h => h) (Or.inl ⟨by rfl, ?_⟩) (by assumption) ?_
    · intro w' hSw; go_simp
    (try simp only [Act.put, List.getElem_toArray, List.getElem_cons_zero, List.getElem_cons_succ, List.setIfInBounds_toArray, List.set_cons_zero, List.set_cons_succ])
    refine wpAnyH_take (i := 19) (v := .pointer (some ⟨g.rb, 9, none⟩)) rfl (by kernel_rfl) (by kernel_rfl) (by kernel_rfl) (fun _ _ _ h => h) (Or.inl ⟨by rfl, ?_⟩) (by assumption) ?_
    · intro w' hSw; go_simp
    (try simp only [Act.put, List.getElem_toArray, List.getElem_cons_zero, List.getElem_cons_succ, List.setIfInBounds_toArray, List.set_cons_zero, List.set_cons_succ])
    refine wpAnyH_ready (rs := [20]) (by kernel_rfl) (by simp) (AllReadyH.cons rfl (fun K hK => ?_) AllReadyH.nil)
    go_simp
    refine hK.out _ _ (HS.out _ (fun k hk hk1 o ho => ?_)) (fun hHeld => ?_)
    · by_cases hkb : k = g.rb
      · rw [World.cell?_setCell_other _ _ _ _ (fun e => by injection e with e1 e2; exact ho hkb e2.symm)]
        exact World.cell?_of_block (a := ⟨k, o, none⟩) (HOLD.out k hk hk1)
      · rw [World.cell?_setCell_other _ _ _ _ (fun e => by injection e with e1; exact hkb e1.symm)]
        exact World.cell?_of_block (a := ⟨k, o, none⟩) (HOLD.out k hk hk1)
    · refine wpAnyH_done (by kernel_rfl) ?_ _
      go_wp2_with fail
      go_ret
      exact StepOk.ok step_10 (HR.out.push HBA.out HG2.out HO2.out HP2.out) (HF.out.trans (HR.out.pushFrame HBA.out HG2.out HP2.out _ _ _)) rfl rfl rfl rfl

end Go.Proofs.YteknhnnlhhgppaaDoor
