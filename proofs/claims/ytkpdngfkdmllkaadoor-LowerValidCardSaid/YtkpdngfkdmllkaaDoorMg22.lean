/-
  Mg22: several texts in one (ChkOk, LowOneP, IrStep1, IrStep8).
-/
import Derived.Test.YtkpdngfkdmllkaaDoorChkCheck
import Derived.Test.YtkpdngfkdmllkaaDoorMg5
import Derived.Test.YtkpdngfkdmllkaaDoorMg3
import Derived.BigRegion
import Derived.Deep.QuietTactic
import Derived.BigQuiet
/-
  Contracts: OK (package check), small and clean (package ontimelaw15).
-/
namespace Go.Proofs.YtkpdngfkdmllkaaDoor
set_option linter.unusedVariables false
set_option linter.unusedSimpArgs false
open Go.RowKit
set_option maxRecDepth 100000
set_option maxHeartbeats 4000000

/-- a program without faults -/
def okP (p : Prg) : Bool := prgOk p && (checkE p).isEmpty
theorem ok15_any (p : Prg) (w : World) (sa ta : Option Addr) (sc tc : Nat) (hp : PrgAt w p sa ta) (hg : SignsIn w) :
    Calls Tryd.prog 19 #[p.val sa sc ta tc] w fun e w' => e = .returned (.bool (okP p)) ∧ Below w.heap.size w w' := by
  obtain ⟨W, hW⟩ : ∃ W : World, w.alloc (prgObj p sa sc ta tc) = W := ⟨_, rfl⟩
  have HBW : Hid (Below w.heap.size w W) := by show Below _ _ _; rw [← hW]; exact mem_alloc _ _
  have HBX : Hid (W.heap[w.heap.size]? = some (prgObj p sa sc ta tc)) := by show _ = _; rw [← hW]; exact mem_new _ _
  have y0 : W.cell? ⟨w.heap.size, 0, none⟩ = some (.slice sa p.shared.length sc) := mem_cell HBX.out 0
  have y1 : W.cell? ⟨w.heap.size, 1, none⟩ = some (.slice ta p.tasks.length tc) := mem_cell HBX.out 1
  have HP := Lib.hid (hp.below HBW.out)
  have HG := Lib.hid (hg.below HBW.out)
  clear hp hg
  go_enter Tryd.func19, Tryd.ntmps19
  go_wp2_with fail
  clear hW y0 y1
  refine (valid_any p W sa ta sc tc HP.out HG.out).mono ?_
  rintro e w1 ⟨rfl, hB1⟩
  have HBX1 : Hid (w1.heap[w.heap.size]? = some (prgObj p sa sc ta tc)) := mem_keep HBX.out hB1
  have HP1 := Lib.hid (HP.out.below hB1)
  have HG1 := Lib.hid (HG.out.below hB1)
  have HB1 : Hid (Below w.heap.size w w1) := HBW.out.trans (hB1.mono HBW.out.size)
  clear hB1 HP HG HBW HBX
  cases hv : prgOk p with
  | false =>
    have HE : Hid (okP p = false) := by show _ = _; unfold okP; rw [hv]; rfl
    clear hv
    go_wp2_with fail
    go_ret
    exact ⟨by rw [HE.out]; rfl, HB1.out⟩
  | true =>
    have HV := Lib.hid hv
    clear hv
    have y0 : w1.cell? ⟨w.heap.size, 0, none⟩ = some (.slice sa p.shared.length sc) := mem_cell HBX1.out 0
    have y1 : w1.cell? ⟨w.heap.size, 1, none⟩ = some (.slice ta p.tasks.length tc) := mem_cell HBX1.out 1
    go_wp2_with fail
    clear y0 y1
    refine (check_any p w1 sa ta sc tc HP1.out HG1.out).mono ?_
    rintro e w2 ⟨v, L, rfl, hL, hF, hlen, hB2⟩
    obtain ⟨va, vc, rfl⟩ := own_val hL.ro
    have HB2 : Hid (Below w.heap.size w w2) := HB1.out.trans (hB2.mono HB1.out.size)
    have HF := Lib.hid hF
    clear hL hF hB2
    cases L with
    | nil =>
      have HE : Hid (okP p = true) := by show _ = _; unfold okP; rw [HV.out, ← HF.out]; rfl
      go_wp2_with fail
      go_ret
      exact ⟨by rw [HE.out]; rfl, HB2.out⟩
    | cons f L =>
      have HE : Hid (okP p = false) := by show _ = _; unfold okP; rw [HV.out, ← HF.out]; rfl
      have hz : (((L.length + 1 : Nat) : Int) == 0) = false := by simp; omega
      rw [List.length_cons]
      go_wp2_with fail
      go_ret
      exact ⟨by rw [HE.out]; rfl, HB2.out⟩
end Go.Proofs.YtkpdngfkdmllkaaDoor

/-
  Plain law of LowerAlone: a program of one task of a program without faults has no faults. No walk here.
-/
namespace Go.Proofs.YtkpdngfkdmllkaaDoor
set_option linter.unusedVariables false
set_option linter.unusedSimpArgs false
open Go.RowKit

/-- one task alone -/
def oneP (p : Prg) (t : Tsk) : Prg := ⟨p.shared, [t]⟩
theorem tasksF_none {shared : List ByteArray} : ∀ (l : List Tsk) (so : List ByteArray) (i : Nat), tasksF shared so i l = [] → ∀ t ∈ l, taskF shared t = [] := by
  intro l
  induction l with
  | nil => intro so i _ t ht; cases ht
  | cons x l ih =>
    intro so i h t ht
    unfold tasksF at h
    rw [List.append_eq_nil_iff, List.map_eq_nil_iff, List.append_eq_nil_iff] at h
    rcases List.mem_cons.1 ht with rfl | ht
    · exact h.1.2
    · exact ih _ _ h.2 t ht
theorem one_ok {p : Prg} {i : Nat} (h : okP p = true) (hi : i < p.tasks.length) : okP (oneP p (p.tasks.getD i Tsk.none)) = true := by
  unfold okP at h
  rw [Bool.and_eq_true] at h
  obtain ⟨hp, he⟩ := h
  have ht := (prgOk_le hp).2.2 i hi
  have h1 : prgOk (oneP p (p.tasks.getD i Tsk.none)) = true := by
    unfold prgOk at hp ⊢
    simp only [Bool.and_eq_true, decide_eq_true_eq] at hp ⊢
    refine ⟨hp.1, by show 1 ≤ 8; omega, hp.2.2.1, ?_⟩
    show [p.tasks.getD i Tsk.none].all tskOk = true
    simp only [List.all_cons, List.all_nil, Bool.and_true]
    exact ht
  have h2 : checkF p = [] := by
    unfold checkE at he
    rw [if_pos hp] at he
    exact List.isEmpty_iff.1 he
  unfold checkF at h2
  rw [List.append_eq_nil_iff, List.map_eq_nil_iff] at h2
  have h3 := tasksF_none _ _ _ h2.2 (p.tasks.getD i Tsk.none) (by simp [hi])
  unfold okP
  rw [h1, Bool.true_and]
  unfold checkE
  rw [if_pos h1, List.isEmpty_iff]
  unfold checkF
  show (declF (fun _ => false) [] (p.shared.map (·.name))).map (fun f => TFlt.mk (-1) f) ++ tasksF (p.shared.map (·.name)) [] 0 [p.tasks.getD i Tsk.none] = []
  rw [h2.1]
  unfold tasksF
  rw [h3]
  rfl
end Go.Proofs.YtkpdngfkdmllkaaDoor

/-
  Contract: instruction (package ir: runner), operation by operation.
-/
namespace Go.Proofs.YtkpdngfkdmllkaaDoor
set_option linter.unusedVariables false
set_option linter.unusedSimpArgs false
open Go.RowKit
set_option maxRecDepth 100000
set_option maxHeartbeats 4000000
theorem instr_1 (N : Nat) (g : Geo) (names : List ByteArray) (inp : List Int) (d : Nat) (x : Int) (y : Int) (imm : Int) (sym : ByteArray) (w : World) (ov : Value) (s : IrSt) (h : RunAt N g names w ov s) (hd : d < s.regs.length) (hi0 : -2147483648 ≤ imm) (hi1 : imm ≤ 2147483647) :
    Calls Tryd.prog 48 #[.pointer (some ⟨g.rb, 0, none⟩), Ins.val ⟨1, ((d : Nat) : Int), x, y, imm, sym⟩] w (StepOk N g names ov s w (step names inp ⟨1, ((d : Nat) : Int), x, y, imm, sym⟩ s)) := by
  obtain ⟨W, hW⟩ : ∃ W : World, w.alloc (.cells #[.int .u8 1, .int .i64 ((d : Nat) : Int), .int .i64 x, .int .i64 y, .int .i64 imm, .string sym] 48) = W := ⟨_, rfl⟩
  have hB : Below w.heap.size w W := by rw [← hW]; exact (Below.refl _ _).alloc (Nat.le_refl _) _
  have hWs : W.heap.size = w.heap.size + 1 := by rw [← hW]; simp
  have HR := Lib.hid (h.keep hB)
  have HF := Lib.hid (Frame.of_below (g := g) (ov := ov) hB)
  have i0 : W.cell? ⟨w.heap.size, 0, none⟩ = some (.int .u8 1) := by rw [← hW]; simp
  have i1 : W.cell? ⟨w.heap.size, 1, none⟩ = some (.int .i64 ((d : Nat) : Int)) := by rw [← hW]; simp
  have i2 : W.cell? ⟨w.heap.size, 2, none⟩ = some (.int .i64 x) := by rw [← hW]; simp
  have i3 : W.cell? ⟨w.heap.size, 3, none⟩ = some (.int .i64 y) := by rw [← hW]; simp
  have i4 : W.cell? ⟨w.heap.size, 4, none⟩ = some (.int .i64 imm) := by rw [← hW]; simp
  have i5 : W.cell? ⟨w.heap.size, 5, none⟩ = some (.string sym) := by rw [← hW]; simp
  have r0 : W.cell? ⟨g.rb, 0, none⟩ = some (.slice (some ⟨g.rg, 0, none⟩) s.regs.length s.regs.length) := HR.out.cell 0
  have vd := HR.out.reg hd
  have zd : W.frozen? ⟨g.rg, d, none⟩ = false := frozen_heap HR.out.regs d
  have d0 : (0 : Int) ≤ (d : Int) := by omega
  have d1 : (d : Int) < (s.regs.length : Int) := by omega
  have wd := HR.out.regw hd
  have d2 := wd.1
  have d3 := wd.2
  have Kd := Lib.hid wd
  clear wd
  clear h hB
  unfold Ins.val
  go_enter Tryd.func48, Tryd.ntmps48
  go_wp2_with fail
  clear hW
  go_region
  go_wp2_with fail
  go_ret
  refine StepOk.ok (by rw [step_1, wrap_id hi0 hi1]) (HR.out.setReg (k := d) ⟨hi0, hi1⟩) (HF.out.trans (Frame.setCell g.rg d _ (.inr (.inl rfl)))) rfl rfl rfl rfl

theorem instr_2 (N : Nat) (g : Geo) (names : List ByteArray) (inp : List Int) (d : Nat) (x : Nat) (y : Int) (imm : Int) (sym : ByteArray) (w : World) (ov : Value) (s : IrSt) (h : RunAt N g names w ov s) (hd : d < s.regs.length) (hx : x < s.regs.length)  :
    Calls Tryd.prog 48 #[.pointer (some ⟨g.rb, 0, none⟩), Ins.val ⟨2, ((d : Nat) : Int), ((x : Nat) : Int), y, imm, sym⟩] w (StepOk N g names ov s w (step names inp ⟨2, ((d : Nat) : Int), ((x : Nat) : Int), y, imm, sym⟩ s)) := by
  obtain ⟨W, hW⟩ : ∃ W : World, w.alloc (.cells #[.int .u8 2, .int .i64 ((d : Nat) : Int), .int .i64 ((x : Nat) : Int), .int .i64 y, .int .i64 imm, .string sym] 48) = W := ⟨_, rfl⟩
  have hB : Below w.heap.size w W := by rw [← hW]; exact (Below.refl _ _).alloc (Nat.le_refl _) _
  have hWs : W.heap.size = w.heap.size + 1 := by rw [← hW]; simp
  have HR := Lib.hid (h.keep hB)
  have HF := Lib.hid (Frame.of_below (g := g) (ov := ov) hB)
  have i0 : W.cell? ⟨w.heap.size, 0, none⟩ = some (.int .u8 2) := by rw [← hW]; simp
  have i1 : W.cell? ⟨w.heap.size, 1, none⟩ = some (.int .i64 ((d : Nat) : Int)) := by rw [← hW]; simp
  have i2 : W.cell? ⟨w.heap.size, 2, none⟩ = some (.int .i64 ((x : Nat) : Int)) := by rw [← hW]; simp
  have i3 : W.cell? ⟨w.heap.size, 3, none⟩ = some (.int .i64 y) := by rw [← hW]; simp
  have i4 : W.cell? ⟨w.heap.size, 4, none⟩ = some (.int .i64 imm) := by rw [← hW]; simp
  have i5 : W.cell? ⟨w.heap.size, 5, none⟩ = some (.string sym) := by rw [← hW]; simp
  have r0 : W.cell? ⟨g.rb, 0, none⟩ = some (.slice (some ⟨g.rg, 0, none⟩) s.regs.length s.regs.length) := HR.out.cell 0
  have vd := HR.out.reg hd
  have zd : W.frozen? ⟨g.rg, d, none⟩ = false := frozen_heap HR.out.regs d
  have d0 : (0 : Int) ≤ (d : Int) := by omega
  have d1 : (d : Int) < (s.regs.length : Int) := by omega
  have wd := HR.out.regw hd
  have d2 := wd.1
  have d3 := wd.2
  have Kd := Lib.hid wd
  clear wd
  have vx := HR.out.reg hx
  have zx : W.frozen? ⟨g.rg, x, none⟩ = false := frozen_heap HR.out.regs x
  have x0 : (0 : Int) ≤ (x : Int) := by omega
  have x1 : (x : Int) < (s.regs.length : Int) := by omega
  have wx := HR.out.regw hx
  have x2 := wx.1
  have x3 := wx.2
  have Kx := Lib.hid wx
  clear wx
  clear h hB
  unfold Ins.val
  go_enter Tryd.func48, Tryd.ntmps48
  go_wp2_with fail
  clear hW
  go_region
  go_wp2_with fail
  go_ret
  refine StepOk.ok step_2 (HR.out.setReg (k := d) Kx.out) (HF.out.trans (Frame.setCell g.rg d _ (.inr (.inl rfl)))) rfl rfl rfl rfl

theorem instr_8 (N : Nat) (g : Geo) (names : List ByteArray) (inp : List Int) (d : Int) (x : Nat) (y : Int) (imm : Int) (sym : ByteArray) (w : World) (ov : Value) (s : IrSt) (h : RunAt N g names w ov s) (hx : x < s.regs.length)  :
    Calls Tryd.prog 48 #[.pointer (some ⟨g.rb, 0, none⟩), Ins.val ⟨8, d, ((x : Nat) : Int), y, imm, sym⟩] w (StepOk N g names ov s w (step names inp ⟨8, d, ((x : Nat) : Int), y, imm, sym⟩ s)) := by
  obtain ⟨W, hW⟩ : ∃ W : World, w.alloc (.cells #[.int .u8 8, .int .i64 d, .int .i64 ((x : Nat) : Int), .int .i64 y, .int .i64 imm, .string sym] 48) = W := ⟨_, rfl⟩
  have hB : Below w.heap.size w W := by rw [← hW]; exact (Below.refl _ _).alloc (Nat.le_refl _) _
  have hWs : W.heap.size = w.heap.size + 1 := by rw [← hW]; simp
  have HR := Lib.hid (h.keep hB)
  have HF := Lib.hid (Frame.of_below (g := g) (ov := ov) hB)
  have i0 : W.cell? ⟨w.heap.size, 0, none⟩ = some (.int .u8 8) := by rw [← hW]; simp
  have i1 : W.cell? ⟨w.heap.size, 1, none⟩ = some (.int .i64 d) := by rw [← hW]; simp
  have i2 : W.cell? ⟨w.heap.size, 2, none⟩ = some (.int .i64 ((x : Nat) : Int)) := by rw [← hW]; simp
  have i3 : W.cell? ⟨w.heap.size, 3, none⟩ = some (.int .i64 y) := by rw [← hW]; simp
  have i4 : W.cell? ⟨w.heap.size, 4, none⟩ = some (.int .i64 imm) := by rw [← hW]; simp
  have i5 : W.cell? ⟨w.heap.size, 5, none⟩ = some (.string sym) := by rw [← hW]; simp
  have r0 : W.cell? ⟨g.rb, 0, none⟩ = some (.slice (some ⟨g.rg, 0, none⟩) s.regs.length s.regs.length) := HR.out.cell 0
  have vx := HR.out.reg hx
  have zx : W.frozen? ⟨g.rg, x, none⟩ = false := frozen_heap HR.out.regs x
  have x0 : (0 : Int) ≤ (x : Int) := by omega
  have x1 : (x : Int) < (s.regs.length : Int) := by omega
  have wx := HR.out.regw hx
  have x2 := wx.1
  have x3 := wx.2
  have Kx := Lib.hid wx
  clear wx
  clear h hB
  unfold Ins.val
  go_enter Tryd.func48, Tryd.ntmps48
  go_wp2_with fail
  clear hW
  go_quiet (fail)
  by_cases hc : s.reg x < 0 ∨ imm ≤ s.reg x
  · have hc' : s.reg x < 0 ∨ (decide (s.reg x < 0) = false ∧ imm ≤ s.reg x) := by
      by_cases q : s.reg x < 0
      · exact .inl q
      · exact .inr ⟨by simpa using q, by omega⟩
    rcases hc' with q | ⟨q, q'⟩
    all_goals
      go_wp2_with fail
      go_ret
      exact StepOk.trap (by rw [step_8, if_pos hc]) HR.out HF.out rfl rfl rfl rfl
  · have q : decide (s.reg x < 0) = false := by simp; omega
    have q' : decide (imm ≤ s.reg x) = false := by simp; omega
    go_wp2_with fail
    go_ret
    exact StepOk.ok (by rw [step_8, if_neg hc]) HR.out HF.out rfl rfl rfl rfl

end Go.Proofs.YtkpdngfkdmllkaaDoor

/-
  Contract: instruction (package ir: runner), operation by operation.
-/
namespace Go.Proofs.YtkpdngfkdmllkaaDoor
set_option linter.unusedVariables false
set_option linter.unusedSimpArgs false
open Go.RowKit
set_option maxRecDepth 100000
set_option maxHeartbeats 4000000
theorem access_4 (N : Nat) (g : Geo) (names : List ByteArray) (inp : List Int) (d : Nat) (x : Nat) (y : Int) (imm : Int) (sym : ByteArray) (w : World) (ov : Value) (s : IrSt) (h : RunAt N g names w ov s) (hd : d < s.regs.length) (hx : x < s.regs.length) (hs : sym.size ≤ 9223372036854775807) (hj : pos names sym < names.length) :
    Calls Tryd.prog 62 #[.pointer (some ⟨g.rb, 0, none⟩), Ins.val ⟨4, ((d : Nat) : Int), ((x : Nat) : Int), y, imm, sym⟩] w (StepOk N g names ov s w (step names inp ⟨4, ((d : Nat) : Int), ((x : Nat) : Int), y, imm, sym⟩ s)) := by
  obtain ⟨W, hW⟩ : ∃ W : World, w.alloc (.cells #[.int .u8 4, .int .i64 ((d : Nat) : Int), .int .i64 ((x : Nat) : Int), .int .i64 y, .int .i64 imm, .string sym] 48) = W := ⟨_, rfl⟩
  have hB : Below w.heap.size w W := by rw [← hW]; exact (Below.refl _ _).alloc (Nat.le_refl _) _
  have hWs : W.heap.size = w.heap.size + 1 := by rw [← hW]; simp
  have HR := Lib.hid (h.keep hB)
  have HF := Lib.hid (Frame.of_below (g := g) (ov := ov) hB)
  have i0 : W.cell? ⟨w.heap.size, 0, none⟩ = some (.int .u8 4) := by rw [← hW]; simp
  have i1 : W.cell? ⟨w.heap.size, 1, none⟩ = some (.int .i64 ((d : Nat) : Int)) := by rw [← hW]; simp
  have i2 : W.cell? ⟨w.heap.size, 2, none⟩ = some (.int .i64 ((x : Nat) : Int)) := by rw [← hW]; simp
  have i3 : W.cell? ⟨w.heap.size, 3, none⟩ = some (.int .i64 y) := by rw [← hW]; simp
  have i4 : W.cell? ⟨w.heap.size, 4, none⟩ = some (.int .i64 imm) := by rw [← hW]; simp
  have i5 : W.cell? ⟨w.heap.size, 5, none⟩ = some (.string sym) := by rw [← hW]; simp
  have r0 : W.cell? ⟨g.rb, 0, none⟩ = some (.slice (some ⟨g.rg, 0, none⟩) s.regs.length s.regs.length) := HR.out.cell 0
  have r5 : W.cell? ⟨g.rb, 5, none⟩ = some (.map (some g.mb)) := HR.out.cell 5
  have z5 : W.frozen? ⟨g.rb, 5, none⟩ = false := frozen_heap HR.out.run 5
  have vd := HR.out.reg hd
  have zd : W.frozen? ⟨g.rg, d, none⟩ = false := frozen_heap HR.out.regs d
  have d0 : (0 : Int) ≤ (d : Int) := by omega
  have d1 : (d : Int) < (s.regs.length : Int) := by omega
  have wd := HR.out.regw hd
  have d2 := wd.1
  have d3 := wd.2
  have Kd := Lib.hid wd
  clear wd
  have vx := HR.out.reg hx
  have zx : W.frozen? ⟨g.rg, x, none⟩ = false := frozen_heap HR.out.regs x
  have x0 : (0 : Int) ≤ (x : Int) := by omega
  have x1 : (x : Int) < (s.regs.length : Int) := by omega
  have wx := HR.out.regw hx
  have x2 := wx.1
  have x3 := wx.2
  have Kx := Lib.hid wx
  clear wx
  have HL := Lib.hid (look_zip (rows := g.rows) hj (HR.out.nnames.trans HR.out.nrows.symm))
  have hjm : pos names sym < s.mem.length := by rw [← HR.out.nnames]; exact hj
  have HOW := Lib.hid (HR.out.rows _ hjm)
  have hrl := ownsRow_len HOW.out
  obtain ⟨ra, rc, hrv⟩ := ownsRow_val HOW.out
  have hrun : ∀ n, (Instr.lookup 86 (.map (some g.mb)) (.string sym) false).run Tryd.prog (W.drewN n) = .ok (.slice ra (s.row (pos names sym)).length rc) (W.drewN n) := fun n => by
    rw [(HR.out.map.move (w' := W.drewN n) rfl).run Tryd.underlying9 Tryd.underlying86 (zeroR _) hs, HL.out, hrv]
    rfl
  have HJ := Lib.hid hj
  clear hj
  clear h hB
  unfold Ins.val
  go_enter Tryd.func62, Tryd.ntmps62
  go_wp2_with fail
  clear hW
  go_quiet (fail)
  generalize hV : World.drewN _ _ = V
  have HRV : Hid (RunAt N g names V ov s) := by show RunAt _ _ _ _ _ _; rw [← hV]; exact HR.out.same rfl
  have HFV : Hid (Frame g ov ov w V) := by show Frame _ _ _ _ _; rw [← hV]; exact ⟨HF.out.os, HF.out.tape, HF.out.output, HF.out.size, HF.out.block, HF.out.ovs⟩
  have HFC : Hid (∀ k, V.cell? ⟨w.heap.size, k, none⟩ = W.cell? ⟨w.heap.size, k, none⟩) := fun k => by rw [← hV]; rfl
  have q0 : V.cell? ⟨g.rb, 0, none⟩ = some (.slice (some ⟨g.rg, 0, none⟩) s.regs.length s.regs.length) := HRV.out.cell 0
  have qx : V.cell? ⟨g.rg, x, none⟩ = some (.int .i32 (s.reg x)) := HRV.out.reg hx
  have j2 := (HFC.out 2).trans i2
  clear hV
  go_wp2_with fail
  go_quiet (fail)
  generalize hU : World.drewN _ _ = U
  have HRU : Hid (RunAt N g names U ov s) := by show RunAt _ _ _ _ _ _; rw [← hU]; exact HRV.out.same rfl
  have HFU : Hid (Frame g ov ov w U) := by show Frame _ _ _ _ _; rw [← hU]; exact ⟨HFV.out.os, HFV.out.tape, HFV.out.output, HFV.out.size, HFV.out.block, HFV.out.ovs⟩
  have HUC : Hid (∀ k, U.cell? ⟨w.heap.size, k, none⟩ = W.cell? ⟨w.heap.size, k, none⟩) := fun k => by rw [← hU]; exact HFC.out k
  have p0 : U.cell? ⟨g.rb, 0, none⟩ = some (.slice (some ⟨g.rg, 0, none⟩) s.regs.length s.regs.length) := HRU.out.cell 0
  have l0 := (HUC.out 0).trans i0
  have l1 := (HUC.out 1).trans i1
  have l3 := (HUC.out 3).trans i3
  clear hU q0 qx j2 HFC HRV HFV V r0 r5 z5 i0 i1 i2 i3 i4 i5 hrun
  by_cases hc : s.reg x < 0 ∨ (s.row (pos names sym)).length ≤ s.reg x
  · have hc' : s.reg x < 0 ∨ (decide (s.reg x < 0) = false ∧ (s.row (pos names sym)).length ≤ s.reg x) := by
      by_cases q : s.reg x < 0
      · exact .inl q
      · exact .inr ⟨by simpa using q, by omega⟩
    rcases hc' with q | ⟨q, q'⟩
    all_goals
      go_wp2_with fail
      go_ret
      exact StepOk.trap (step_4.trans (if_pos hc)) HRU.out HFU.out rfl rfl rfl rfl
  · have q : decide (s.reg x < 0) = false := by simp; omega
    have HC := Lib.hid hc
    obtain ⟨k, hk⟩ : ∃ k : Nat, s.reg x = (k : Int) := ⟨(s.reg x).toNat, by omega⟩
    have HK := Lib.hid hk
    have hkl : k < (s.row (pos names sym)).length := by omega
    have q' : decide (((s.row (pos names sym)).length : Int) ≤ (k : Int)) = false := by simp; omega
    obtain ⟨b, rfl⟩ : ∃ b, ra = some ⟨b, 0, none⟩ := ownsRow_some (hrv ▸ HOW.out) (by omega)
    have rw_ := HRU.out.rowCell hjm hrv hkl
    have rz_ : U.frozen? ⟨b, k, none⟩ = false := HRU.out.rowFree hjm hrv hkl k
    rw [hk] at q
    have HWV : Hid (Wd.W ((s.row (pos names sym)).getD k 0)) := HRU.out.wf.mem _ (row_mem hjm) _ (getD_mem hkl)
    obtain ⟨rv0, hrv0⟩ : ∃ v, (s.row (pos names sym)).getD k 0 = v := ⟨_, rfl⟩
    have HRV0 := Lib.hid hrv0
    rw [hrv0] at rw_ HWV
    clear hrv0
    have hk0 : (0 : Int) ≤ (k : Int) := by omega
    have hk1 : (k : Int) < ((s.row (pos names sym)).length : Int) := by omega
    have ud : U.cell? ⟨g.rg, d, none⟩ = some (.int .i32 (s.reg d)) := HRU.out.reg hd
    have uz : U.frozen? ⟨g.rg, d, none⟩ = false := frozen_heap HRU.out.regs d
    rw [hk]
    clear hc hk
    go_wp2_with fail
    go_region
    go_wp2_with fail
    go_ret
    exact StepOk.ok (step_4.trans ((if_neg HC.out).trans (by rw [HK.out, Int.toNat_natCast, HRV0.out]))) (HRU.out.setReg (k := d) HWV.out) (HFU.out.trans (Frame.setCell g.rg d _ (.inr (.inl rfl)))) rfl rfl rfl rfl

theorem access_6 (N : Nat) (g : Geo) (names : List ByteArray) (inp : List Int) (d : Nat) (x : Nat) (y : Int) (imm : Int) (sym : ByteArray) (w : World) (ov : Value) (s : IrSt) (h : RunAt N g names w ov s) (hd : d < s.regs.length) (hx : x < s.regs.length) (hs : sym.size ≤ 9223372036854775807) (hj : pos names sym < names.length) :
    Calls Tryd.prog 62 #[.pointer (some ⟨g.rb, 0, none⟩), Ins.val ⟨6, ((d : Nat) : Int), ((x : Nat) : Int), y, imm, sym⟩] w (StepOk N g names ov s w (step names inp ⟨6, ((d : Nat) : Int), ((x : Nat) : Int), y, imm, sym⟩ s)) := by
  obtain ⟨W, hW⟩ : ∃ W : World, w.alloc (.cells #[.int .u8 6, .int .i64 ((d : Nat) : Int), .int .i64 ((x : Nat) : Int), .int .i64 y, .int .i64 imm, .string sym] 48) = W := ⟨_, rfl⟩
  have hB : Below w.heap.size w W := by rw [← hW]; exact (Below.refl _ _).alloc (Nat.le_refl _) _
  have hWs : W.heap.size = w.heap.size + 1 := by rw [← hW]; simp
  have HR := Lib.hid (h.keep hB)
  have HF := Lib.hid (Frame.of_below (g := g) (ov := ov) hB)
  have i0 : W.cell? ⟨w.heap.size, 0, none⟩ = some (.int .u8 6) := by rw [← hW]; simp
  have i1 : W.cell? ⟨w.heap.size, 1, none⟩ = some (.int .i64 ((d : Nat) : Int)) := by rw [← hW]; simp
  have i2 : W.cell? ⟨w.heap.size, 2, none⟩ = some (.int .i64 ((x : Nat) : Int)) := by rw [← hW]; simp
  have i3 : W.cell? ⟨w.heap.size, 3, none⟩ = some (.int .i64 y) := by rw [← hW]; simp
  have i4 : W.cell? ⟨w.heap.size, 4, none⟩ = some (.int .i64 imm) := by rw [← hW]; simp
  have i5 : W.cell? ⟨w.heap.size, 5, none⟩ = some (.string sym) := by rw [← hW]; simp
  have r0 : W.cell? ⟨g.rb, 0, none⟩ = some (.slice (some ⟨g.rg, 0, none⟩) s.regs.length s.regs.length) := HR.out.cell 0
  have r5 : W.cell? ⟨g.rb, 5, none⟩ = some (.map (some g.mb)) := HR.out.cell 5
  have z5 : W.frozen? ⟨g.rb, 5, none⟩ = false := frozen_heap HR.out.run 5
  have vd := HR.out.reg hd
  have zd : W.frozen? ⟨g.rg, d, none⟩ = false := frozen_heap HR.out.regs d
  have d0 : (0 : Int) ≤ (d : Int) := by omega
  have d1 : (d : Int) < (s.regs.length : Int) := by omega
  have wd := HR.out.regw hd
  have d2 := wd.1
  have d3 := wd.2
  have Kd := Lib.hid wd
  clear wd
  have vx := HR.out.reg hx
  have zx : W.frozen? ⟨g.rg, x, none⟩ = false := frozen_heap HR.out.regs x
  have x0 : (0 : Int) ≤ (x : Int) := by omega
  have x1 : (x : Int) < (s.regs.length : Int) := by omega
  have wx := HR.out.regw hx
  have x2 := wx.1
  have x3 := wx.2
  have Kx := Lib.hid wx
  clear wx
  have HL := Lib.hid (look_zip (rows := g.rows) hj (HR.out.nnames.trans HR.out.nrows.symm))
  have hjm : pos names sym < s.mem.length := by rw [← HR.out.nnames]; exact hj
  have HOW := Lib.hid (HR.out.rows _ hjm)
  have hrl := ownsRow_len HOW.out
  obtain ⟨ra, rc, hrv⟩ := ownsRow_val HOW.out
  have hrun : ∀ n, (Instr.lookup 86 (.map (some g.mb)) (.string sym) false).run Tryd.prog (W.drewN n) = .ok (.slice ra (s.row (pos names sym)).length rc) (W.drewN n) := fun n => by
    rw [(HR.out.map.move (w' := W.drewN n) rfl).run Tryd.underlying9 Tryd.underlying86 (zeroR _) hs, HL.out, hrv]
    rfl
  have HJ := Lib.hid hj
  clear hj
  clear h hB
  unfold Ins.val
  go_enter Tryd.func62, Tryd.ntmps62
  go_wp2_with fail
  clear hW
  go_quiet (fail)
  generalize hV : World.drewN _ _ = V
  have HRV : Hid (RunAt N g names V ov s) := by show RunAt _ _ _ _ _ _; rw [← hV]; exact HR.out.same rfl
  have HFV : Hid (Frame g ov ov w V) := by show Frame _ _ _ _ _; rw [← hV]; exact ⟨HF.out.os, HF.out.tape, HF.out.output, HF.out.size, HF.out.block, HF.out.ovs⟩
  have HFC : Hid (∀ k, V.cell? ⟨w.heap.size, k, none⟩ = W.cell? ⟨w.heap.size, k, none⟩) := fun k => by rw [← hV]; rfl
  have q0 : V.cell? ⟨g.rb, 0, none⟩ = some (.slice (some ⟨g.rg, 0, none⟩) s.regs.length s.regs.length) := HRV.out.cell 0
  have qx : V.cell? ⟨g.rg, x, none⟩ = some (.int .i32 (s.reg x)) := HRV.out.reg hx
  have j2 := (HFC.out 2).trans i2
  clear hV
  go_wp2_with fail
  go_quiet (fail)
  generalize hU : World.drewN _ _ = U
  have HRU : Hid (RunAt N g names U ov s) := by show RunAt _ _ _ _ _ _; rw [← hU]; exact HRV.out.same rfl
  have HFU : Hid (Frame g ov ov w U) := by show Frame _ _ _ _ _; rw [← hU]; exact ⟨HFV.out.os, HFV.out.tape, HFV.out.output, HFV.out.size, HFV.out.block, HFV.out.ovs⟩
  have HUC : Hid (∀ k, U.cell? ⟨w.heap.size, k, none⟩ = W.cell? ⟨w.heap.size, k, none⟩) := fun k => by rw [← hU]; exact HFC.out k
  have p0 : U.cell? ⟨g.rb, 0, none⟩ = some (.slice (some ⟨g.rg, 0, none⟩) s.regs.length s.regs.length) := HRU.out.cell 0
  have l0 := (HUC.out 0).trans i0
  have l1 := (HUC.out 1).trans i1
  have l3 := (HUC.out 3).trans i3
  clear hU q0 qx j2 HFC HRV HFV V r0 r5 z5 i0 i1 i2 i3 i4 i5 hrun
  by_cases hc : s.reg x < 0 ∨ (s.row (pos names sym)).length ≤ s.reg x
  · have hc' : s.reg x < 0 ∨ (decide (s.reg x < 0) = false ∧ (s.row (pos names sym)).length ≤ s.reg x) := by
      by_cases q : s.reg x < 0
      · exact .inl q
      · exact .inr ⟨by simpa using q, by omega⟩
    rcases hc' with q | ⟨q, q'⟩
    all_goals
      go_wp2_with fail
      go_ret
      exact StepOk.trap (step_6.trans (if_pos hc)) HRU.out HFU.out rfl rfl rfl rfl
  · have q : decide (s.reg x < 0) = false := by simp; omega
    have HC := Lib.hid hc
    obtain ⟨k, hk⟩ : ∃ k : Nat, s.reg x = (k : Int) := ⟨(s.reg x).toNat, by omega⟩
    have HK := Lib.hid hk
    have hkl : k < (s.row (pos names sym)).length := by omega
    have q' : decide (((s.row (pos names sym)).length : Int) ≤ (k : Int)) = false := by simp; omega
    obtain ⟨b, rfl⟩ : ∃ b, ra = some ⟨b, 0, none⟩ := ownsRow_some (hrv ▸ HOW.out) (by omega)
    have rw_ := HRU.out.rowCell hjm hrv hkl
    have rz_ : U.frozen? ⟨b, k, none⟩ = false := HRU.out.rowFree hjm hrv hkl k
    rw [hk] at q
    have HWV : Hid (Wd.W ((s.row (pos names sym)).getD k 0)) := HRU.out.wf.mem _ (row_mem hjm) _ (getD_mem hkl)
    obtain ⟨rv0, hrv0⟩ : ∃ v, (s.row (pos names sym)).getD k 0 = v := ⟨_, rfl⟩
    have HRV0 := Lib.hid hrv0
    rw [hrv0] at rw_ HWV
    clear hrv0
    have hk0 : (0 : Int) ≤ (k : Int) := by omega
    have hk1 : (k : Int) < ((s.row (pos names sym)).length : Int) := by omega
    have ud : U.cell? ⟨g.rg, d, none⟩ = some (.int .i32 (s.reg d)) := HRU.out.reg hd
    have uz : U.frozen? ⟨g.rg, d, none⟩ = false := frozen_heap HRU.out.regs d
    rw [hk]
    clear hc hk
    go_wp2_with fail
    go_region
    go_wp2_with fail
    go_ret
    exact StepOk.ok (step_6.trans ((if_neg HC.out).trans (by rw [HK.out, Int.toNat_natCast, HRV0.out]))) (HRU.out.setReg (k := d) HWV.out) (HFU.out.trans (Frame.setCell g.rg d _ (.inr (.inl rfl)))) rfl rfl rfl rfl

end Go.Proofs.YtkpdngfkdmllkaaDoor
