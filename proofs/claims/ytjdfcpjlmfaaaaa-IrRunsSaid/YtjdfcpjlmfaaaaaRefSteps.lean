/-
  RefSteps: several texts in one (RefStep1, RefStep2, RefStep3, RefStep4, RefStep5, RefStep6, RefStep7).
-/
import Derived.Test.YtjdfcpjlmfaaaaaRefStep
import Derived.BigRegion
import Derived.Deep.QuietTactic
import Derived.BigQuiet
import Derived.Test.YtjdfcpjlmfaaaaaRef03Calls
import Derived.Deep.RegionHeld
import Derived.OrdersHeld
import Derived.Test.YtjdfcpjlmfaaaaaIrSteps
/-
  Contract: step (package ontimeref17: machine), operation by operation.
-/
namespace Go.Proofs.Ytjdfcpjlmfaaaaa
set_option linter.unusedVariables false
set_option linter.unusedSimpArgs false
open Go.RowKit
set_option maxRecDepth 100000
set_option maxHeartbeats 8000000
theorem rstep_1 (N : Nat) (G : RGeo) (sh : List (ByteArray × Int)) (names : List ByteArray) (inp : List Int) (d : Nat) (x : Int) (y : Int) (imm : Int) (sym : ByteArray) (w : World) (uv : Value) (n : Int) (s : St) (h : RefAt N G sh w uv n 0 s) (hN : N ≤ w.heap.size) (hd : d < s.regs.length) (hi0 : -2147483648 ≤ imm) (hi1 : imm ≤ 2147483647) :
    Calls Try.prog 41 #[.pointer (some ⟨G.mb, 0, none⟩), Ins.val ⟨1, ((d : Nat) : Int), x, y, imm, sym⟩] w (RStep N G sh n s w (step names inp ⟨1, ((d : Nat) : Int), x, y, imm, sym⟩ s)) := by
  obtain ⟨W, hW⟩ : ∃ W : World, w.alloc (.cells #[.int .u8 1, .int .i64 ((d : Nat) : Int), .int .i64 x, .int .i64 y, .int .i64 imm, .string sym] 77) = W := ⟨_, rfl⟩
  have HBW : Hid (Below w.heap.size w W) := by show Below _ _ _; rw [← hW]; exact (Below.refl _ _).alloc (Nat.le_refl _) _
  have HX : Hid (W.heap[w.heap.size]? = some (.cells #[.int .u8 1, .int .i64 ((d : Nat) : Int), .int .i64 x, .int .i64 y, .int .i64 imm, .string sym] 77)) := by show _ = _; rw [← hW]; exact (MapKept.heap_alloc w _).1
  have HI : Hid (∀ w', Below W.heap.size W w' → ICells w.heap.size ⟨1, ((d : Nat) : Int), x, y, imm, sym⟩ w') := fun w' hb => ICells.of ((hb.block _ (lt_heap HX.out)).trans HX.out)
  have HR := Lib.hid (h.keep HBW.out)
  have HH := Lib.hid h
  have HNW : Hid (N ≤ W.heap.size) := Nat.le_trans hN HBW.out.size
  have HN0 := Lib.hid hN
  have Hdr := Lib.hid hd
  have d0 : (0 : Int) ≤ (d : Int) := by omega
  have d1 : (d : Int) < (s.regs.length : Int) := by omega
  have wd := HR.out.regw hd
  have d2 := wd.1
  have d3 := wd.2
  have Kd := Lib.hid wd
  clear wd hd
  clear h hN
  have QD : Hid (∀ w', Calls Try.prog 31 #[.agg #[.int .u8 1, .int .i64 ((d : Nat) : Int), .int .i64 x, .int .i64 y, .int .i64 imm, .string sym]] w' fun e w'' => e = .returned (.tuple #[.int .i64 ((d : Nat) : Int), .bool true]) ∧ Below w'.heap.size w' w'') := fun w' => rDefines_any ⟨1, ((d : Nat) : Int), x, y, imm, sym⟩ (by show (0 : Int) ≤ 1; decide) (by show (1 : Int) ≤ 255; decide) _ _ rfl rfl w'
  have QU : Hid (∀ w', Calls Try.prog 32 #[.agg #[.int .u8 1, .int .i64 ((d : Nat) : Int), .int .i64 x, .int .i64 y, .int .i64 imm, .string sym]] w' fun e w'' => (∃ a c, e = .returned (.slice a 0 c)) ∧ Below w'.heap.size w' w'') := fun w' => rUses_any ⟨1, ((d : Nat) : Int), x, y, imm, sym⟩ (by show (0 : Int) ≤ 1; decide) (by show (1 : Int) ≤ 255; decide) 0 rfl w'
  obtain ⟨i0, i1, i2, i3, i4, i5⟩ := HI.out W (Below.refl _ _)
  unfold Ins.val
  go_enter Try.func41, Try.ntmps41
  go_wp2_with fail
  clear hW i0 i1 i2 i3 i4 i5
  refine (QU.out _).mono ?_
  rintro e w1 ⟨⟨ua, uc, rfl⟩, hB1⟩
  have HB1 := Lib.hid hB1
  have HR1 := Lib.hid (HR.out.keep hB1)
  clear hB1
  obtain ⟨i0, i1, i2, i3, i4, i5⟩ := HI.out w1 HB1.out
  go_wp2_with fail
  clear i0 i1 i2 i3 i4 i5
  refine (QD.out _).mono ?_
  rintro e w2 ⟨rfl, hB9⟩
  have HB2 : Hid (Below W.heap.size W w2) := below_then HB1.out hB9
  have HR2 := Lib.hid (HR1.out.keep hB9)
  clear hB9
  have r6 : w2.cell? ⟨G.mb, 6, none⟩ = some (.slice (some ⟨G.rg, 0, none⟩) s.regs.length s.regs.length) := HR2.out.cell 6
  have vd := HR2.out.reg Hdr.out
  have zd : w2.frozen? ⟨G.rg, d, none⟩ = false := frozen_heap HR2.out.regs d
  go_wp2_with fail
  go_ret
  exact RStep.ok (by rw [step_1, wrap_id hi0 hi1]) (HR2.out.setReg (k := d) ⟨hi0, hi1⟩) (((HBW.out.mono HN0.out).trans (HB2.out.mono HNW.out)).setCell HR2.out.rg_ _)

theorem rstep_2 (N : Nat) (G : RGeo) (sh : List (ByteArray × Int)) (names : List ByteArray) (inp : List Int) (d : Nat) (x : Nat) (y : Int) (imm : Int) (sym : ByteArray) (w : World) (uv : Value) (n : Int) (s : St) (h : RefAt N G sh w uv n 0 s) (hN : N ≤ w.heap.size) (hd : d < s.regs.length) (hx : x < s.regs.length)  :
    Calls Try.prog 41 #[.pointer (some ⟨G.mb, 0, none⟩), Ins.val ⟨2, ((d : Nat) : Int), ((x : Nat) : Int), y, imm, sym⟩] w (RStep N G sh n s w (step names inp ⟨2, ((d : Nat) : Int), ((x : Nat) : Int), y, imm, sym⟩ s)) := by
  obtain ⟨W, hW⟩ : ∃ W : World, w.alloc (.cells #[.int .u8 2, .int .i64 ((d : Nat) : Int), .int .i64 ((x : Nat) : Int), .int .i64 y, .int .i64 imm, .string sym] 77) = W := ⟨_, rfl⟩
  have HBW : Hid (Below w.heap.size w W) := by show Below _ _ _; rw [← hW]; exact (Below.refl _ _).alloc (Nat.le_refl _) _
  have HX : Hid (W.heap[w.heap.size]? = some (.cells #[.int .u8 2, .int .i64 ((d : Nat) : Int), .int .i64 ((x : Nat) : Int), .int .i64 y, .int .i64 imm, .string sym] 77)) := by show _ = _; rw [← hW]; exact (MapKept.heap_alloc w _).1
  have HI : Hid (∀ w', Below W.heap.size W w' → ICells w.heap.size ⟨2, ((d : Nat) : Int), ((x : Nat) : Int), y, imm, sym⟩ w') := fun w' hb => ICells.of ((hb.block _ (lt_heap HX.out)).trans HX.out)
  have HR := Lib.hid (h.keep HBW.out)
  have HH := Lib.hid h
  have HNW : Hid (N ≤ W.heap.size) := Nat.le_trans hN HBW.out.size
  have HN0 := Lib.hid hN
  have Hdr := Lib.hid hd
  have d0 : (0 : Int) ≤ (d : Int) := by omega
  have d1 : (d : Int) < (s.regs.length : Int) := by omega
  have wd := HR.out.regw hd
  have d2 := wd.1
  have d3 := wd.2
  have Kd := Lib.hid wd
  clear wd hd
  have Hxr := Lib.hid hx
  have x0 : (0 : Int) ≤ (x : Int) := by omega
  have x1 : (x : Int) < (s.regs.length : Int) := by omega
  have wx := HR.out.regw hx
  have x2 := wx.1
  have x3 := wx.2
  have Kx := Lib.hid wx
  clear wx hx
  clear h hN
  have QD : Hid (∀ w', Calls Try.prog 31 #[.agg #[.int .u8 2, .int .i64 ((d : Nat) : Int), .int .i64 ((x : Nat) : Int), .int .i64 y, .int .i64 imm, .string sym]] w' fun e w'' => e = .returned (.tuple #[.int .i64 ((d : Nat) : Int), .bool true]) ∧ Below w'.heap.size w' w'') := fun w' => rDefines_any ⟨2, ((d : Nat) : Int), ((x : Nat) : Int), y, imm, sym⟩ (by show (0 : Int) ≤ 2; decide) (by show (2 : Int) ≤ 255; decide) _ _ rfl rfl w'
  have QU : Hid (∀ w', Calls Try.prog 32 #[.agg #[.int .u8 2, .int .i64 ((d : Nat) : Int), .int .i64 ((x : Nat) : Int), .int .i64 y, .int .i64 imm, .string sym]] w' fun e w'' => (∃ a c, e = .returned (.slice a 1 c)) ∧ Below w'.heap.size w' w'') := fun w' => rUses_any ⟨2, ((d : Nat) : Int), ((x : Nat) : Int), y, imm, sym⟩ (by show (0 : Int) ≤ 2; decide) (by show (2 : Int) ≤ 255; decide) 1 rfl w'
  obtain ⟨i0, i1, i2, i3, i4, i5⟩ := HI.out W (Below.refl _ _)
  unfold Ins.val
  go_enter Try.func41, Try.ntmps41
  go_wp2_with fail
  clear hW i0 i1 i2 i3 i4 i5
  refine (QU.out _).mono ?_
  rintro e w1 ⟨⟨ua, uc, rfl⟩, hB1⟩
  have HB1 := Lib.hid hB1
  have HR1 := Lib.hid (HR.out.keep hB1)
  clear hB1
  obtain ⟨i0, i1, i2, i3, i4, i5⟩ := HI.out w1 HB1.out
  have r6 : w1.cell? ⟨G.mb, 6, none⟩ = some (.slice (some ⟨G.rg, 0, none⟩) s.regs.length s.regs.length) := HR1.out.cell 6
  have vx := HR1.out.reg Hxr.out
  go_wp2_with fail
  go_quiet (fail)
  generalize hV : World.drewN _ _ = w2
  have HB2 := Lib.hid (below_drawn2 HB1.out hV)
  have HR2 := Lib.hid (HR1.out.keep (self_drawn hV))
  clear hV
  clear i0 i1 i2 i3 i4 i5 r6 vx
  obtain ⟨i0, i1, i2, i3, i4, i5⟩ := HI.out w2 HB2.out
  go_wp2_with fail
  clear i0 i1 i2 i3 i4 i5
  refine (QD.out _).mono ?_
  rintro e w3 ⟨rfl, hB9⟩
  have HB3 : Hid (Below W.heap.size W w3) := below_then HB2.out hB9
  have HR3 := Lib.hid (HR2.out.keep hB9)
  clear hB9
  have r6 : w3.cell? ⟨G.mb, 6, none⟩ = some (.slice (some ⟨G.rg, 0, none⟩) s.regs.length s.regs.length) := HR3.out.cell 6
  have vd := HR3.out.reg Hdr.out
  have zd : w3.frozen? ⟨G.rg, d, none⟩ = false := frozen_heap HR3.out.regs d
  go_wp2_with fail
  go_ret
  exact RStep.ok (step_2) (HR3.out.setReg (k := d) Kx.out) (((HBW.out.mono HN0.out).trans (HB3.out.mono HNW.out)).setCell HR3.out.rg_ _)

theorem rstep_8 (N : Nat) (G : RGeo) (sh : List (ByteArray × Int)) (names : List ByteArray) (inp : List Int) (d : Int) (x : Nat) (y : Int) (imm : Int) (sym : ByteArray) (w : World) (uv : Value) (n : Int) (s : St) (h : RefAt N G sh w uv n 0 s) (hN : N ≤ w.heap.size) (hx : x < s.regs.length) (hi0 : 0 ≤ imm) (hi1 : imm ≤ 131071) :
    Calls Try.prog 41 #[.pointer (some ⟨G.mb, 0, none⟩), Ins.val ⟨8, d, ((x : Nat) : Int), y, imm, sym⟩] w (RStep N G sh n s w (step names inp ⟨8, d, ((x : Nat) : Int), y, imm, sym⟩ s)) := by
  obtain ⟨W, hW⟩ : ∃ W : World, w.alloc (.cells #[.int .u8 8, .int .i64 d, .int .i64 ((x : Nat) : Int), .int .i64 y, .int .i64 imm, .string sym] 77) = W := ⟨_, rfl⟩
  have HBW : Hid (Below w.heap.size w W) := by show Below _ _ _; rw [← hW]; exact (Below.refl _ _).alloc (Nat.le_refl _) _
  have HX : Hid (W.heap[w.heap.size]? = some (.cells #[.int .u8 8, .int .i64 d, .int .i64 ((x : Nat) : Int), .int .i64 y, .int .i64 imm, .string sym] 77)) := by show _ = _; rw [← hW]; exact (MapKept.heap_alloc w _).1
  have HI : Hid (∀ w', Below W.heap.size W w' → ICells w.heap.size ⟨8, d, ((x : Nat) : Int), y, imm, sym⟩ w') := fun w' hb => ICells.of ((hb.block _ (lt_heap HX.out)).trans HX.out)
  have HR := Lib.hid (h.keep HBW.out)
  have HH := Lib.hid h
  have HNW : Hid (N ≤ W.heap.size) := Nat.le_trans hN HBW.out.size
  have HN0 := Lib.hid hN
  have Hxr := Lib.hid hx
  have x0 : (0 : Int) ≤ (x : Int) := by omega
  have x1 : (x : Int) < (s.regs.length : Int) := by omega
  have wx := HR.out.regw hx
  have x2 := wx.1
  have x3 := wx.2
  have Kx := Lib.hid wx
  clear wx hx
  clear h hN
  have QD : Hid (∀ w', Calls Try.prog 31 #[.agg #[.int .u8 8, .int .i64 d, .int .i64 ((x : Nat) : Int), .int .i64 y, .int .i64 imm, .string sym]] w' fun e w'' => e = .returned (.tuple #[.int .i64 0, .bool false]) ∧ Below w'.heap.size w' w'') := fun w' => rDefines_any ⟨8, d, ((x : Nat) : Int), y, imm, sym⟩ (by show (0 : Int) ≤ 8; decide) (by show (8 : Int) ≤ 255; decide) _ _ rfl rfl w'
  have QU : Hid (∀ w', Calls Try.prog 32 #[.agg #[.int .u8 8, .int .i64 d, .int .i64 ((x : Nat) : Int), .int .i64 y, .int .i64 imm, .string sym]] w' fun e w'' => (∃ a c, e = .returned (.slice a 1 c)) ∧ Below w'.heap.size w' w'') := fun w' => rUses_any ⟨8, d, ((x : Nat) : Int), y, imm, sym⟩ (by show (0 : Int) ≤ 8; decide) (by show (8 : Int) ≤ 255; decide) 1 rfl w'
  obtain ⟨i0, i1, i2, i3, i4, i5⟩ := HI.out W (Below.refl _ _)
  unfold Ins.val
  go_enter Try.func41, Try.ntmps41
  go_wp2_with fail
  clear hW i0 i1 i2 i3 i4 i5
  refine (QU.out _).mono ?_
  rintro e w1 ⟨⟨ua, uc, rfl⟩, hB1⟩
  have HB1 := Lib.hid hB1
  have HR1 := Lib.hid (HR.out.keep hB1)
  clear hB1
  obtain ⟨i0, i1, i2, i3, i4, i5⟩ := HI.out w1 HB1.out
  have r6 : w1.cell? ⟨G.mb, 6, none⟩ = some (.slice (some ⟨G.rg, 0, none⟩) s.regs.length s.regs.length) := HR1.out.cell 6
  have vx := HR1.out.reg Hxr.out
  go_wp2_with fail
  go_quiet (fail)
  generalize hV : World.drewN _ _ = w2
  have HB2 := Lib.hid (below_drawn2 HB1.out hV)
  have HR2 := Lib.hid (HR1.out.keep (self_drawn hV))
  clear hV
  clear i0 i1 i2 i3 i4 i5 r6 vx
  obtain ⟨i0, i1, i2, i3, i4, i5⟩ := HI.out w2 HB2.out
  by_cases hc : s.reg x < 0 ∨ imm ≤ s.reg x
  · have hc' : s.reg x < 0 ∨ (decide (s.reg x < 0) = false ∧ imm ≤ s.reg x) := by
      by_cases q : s.reg x < 0
      · exact .inl q
      · exact .inr ⟨by simpa using q, by omega⟩
    have HC := Lib.hid hc
    clear hc
    rcases hc' with q | ⟨q, q'⟩
    all_goals
      go_wp2_with fail
      go_ret
      exact RStep.trap (by rw [step_8, if_pos HC.out]) HR2.out ((HBW.out.mono HN0.out).trans (HB2.out.mono HNW.out))
  · have q : decide (s.reg x < 0) = false := by simp; omega
    have q' : decide (imm ≤ s.reg x) = false := by simp; omega
    have HC := Lib.hid hc
    clear hc
    go_wp2_with fail
    clear i0 i1 i2 i3 i4 i5
    refine (QD.out _).mono ?_
    rintro e w3 ⟨rfl, hB9⟩
    have HB3 : Hid (Below W.heap.size W w3) := below_then HB2.out hB9
    have HR3 := Lib.hid (HR2.out.keep hB9)
    clear hB9
    go_wp2_with fail
    go_ret
    exact RStep.ok (by rw [step_8, if_neg HC.out]) HR3.out ((HBW.out.mono HN0.out).trans (HB3.out.mono HNW.out))

theorem rstep_3 (N : Nat) (G : RGeo) (sh : List (ByteArray × Int)) (names : List ByteArray) (inp : List Int) (d : Nat) (x : Nat) (y : Nat) (imm : Int) (sym : ByteArray) (w : World) (uv : Value) (n : Int) (s : St) (h : RefAt N G sh w uv n 0 s) (hN : N ≤ w.heap.size) (hd : d < s.regs.length) (hx : x < s.regs.length) (hy : y < s.regs.length) (hi0 : 6 ≤ imm) (hi1 : imm ≤ 23) :
    Calls Try.prog 41 #[.pointer (some ⟨G.mb, 0, none⟩), Ins.val ⟨3, ((d : Nat) : Int), ((x : Nat) : Int), ((y : Nat) : Int), imm, sym⟩] w (RStep N G sh n s w (step names inp ⟨3, ((d : Nat) : Int), ((x : Nat) : Int), ((y : Nat) : Int), imm, sym⟩ s)) := by
  obtain ⟨W, hW⟩ : ∃ W : World, w.alloc (.cells #[.int .u8 3, .int .i64 ((d : Nat) : Int), .int .i64 ((x : Nat) : Int), .int .i64 ((y : Nat) : Int), .int .i64 imm, .string sym] 77) = W := ⟨_, rfl⟩
  have HBW : Hid (Below w.heap.size w W) := by show Below _ _ _; rw [← hW]; exact (Below.refl _ _).alloc (Nat.le_refl _) _
  have HX : Hid (W.heap[w.heap.size]? = some (.cells #[.int .u8 3, .int .i64 ((d : Nat) : Int), .int .i64 ((x : Nat) : Int), .int .i64 ((y : Nat) : Int), .int .i64 imm, .string sym] 77)) := by show _ = _; rw [← hW]; exact (MapKept.heap_alloc w _).1
  have HI : Hid (∀ w', Below W.heap.size W w' → ICells w.heap.size ⟨3, ((d : Nat) : Int), ((x : Nat) : Int), ((y : Nat) : Int), imm, sym⟩ w') := fun w' hb => ICells.of ((hb.block _ (lt_heap HX.out)).trans HX.out)
  have HR := Lib.hid (h.keep HBW.out)
  have HH := Lib.hid h
  have HNW : Hid (N ≤ W.heap.size) := Nat.le_trans hN HBW.out.size
  have HN0 := Lib.hid hN
  have Hdr := Lib.hid hd
  have d0 : (0 : Int) ≤ (d : Int) := by omega
  have d1 : (d : Int) < (s.regs.length : Int) := by omega
  have wd := HR.out.regw hd
  have d2 := wd.1
  have d3 := wd.2
  have Kd := Lib.hid wd
  clear wd hd
  have Hxr := Lib.hid hx
  have x0 : (0 : Int) ≤ (x : Int) := by omega
  have x1 : (x : Int) < (s.regs.length : Int) := by omega
  have wx := HR.out.regw hx
  have x2 := wx.1
  have x3 := wx.2
  have Kx := Lib.hid wx
  clear wx hx
  have Hyr := Lib.hid hy
  have y0 : (0 : Int) ≤ (y : Int) := by omega
  have y1 : (y : Int) < (s.regs.length : Int) := by omega
  have wy := HR.out.regw hy
  have y2 := wy.1
  have y3 := wy.2
  have Ky := Lib.hid wy
  clear wy hy
  clear h hN
  have QD : Hid (∀ w', Calls Try.prog 31 #[.agg #[.int .u8 3, .int .i64 ((d : Nat) : Int), .int .i64 ((x : Nat) : Int), .int .i64 ((y : Nat) : Int), .int .i64 imm, .string sym]] w' fun e w'' => e = .returned (.tuple #[.int .i64 ((d : Nat) : Int), .bool true]) ∧ Below w'.heap.size w' w'') := fun w' => rDefines_any ⟨3, ((d : Nat) : Int), ((x : Nat) : Int), ((y : Nat) : Int), imm, sym⟩ (by show (0 : Int) ≤ 3; decide) (by show (3 : Int) ≤ 255; decide) _ _ rfl rfl w'
  have QU : Hid (∀ w', Calls Try.prog 32 #[.agg #[.int .u8 3, .int .i64 ((d : Nat) : Int), .int .i64 ((x : Nat) : Int), .int .i64 ((y : Nat) : Int), .int .i64 imm, .string sym]] w' fun e w'' => (∃ a c, e = .returned (.slice a 2 c)) ∧ Below w'.heap.size w' w'') := fun w' => rUses_any ⟨3, ((d : Nat) : Int), ((x : Nat) : Int), ((y : Nat) : Int), imm, sym⟩ (by show (0 : Int) ≤ 3; decide) (by show (3 : Int) ≤ 255; decide) 2 rfl w'
  obtain ⟨i0, i1, i2, i3, i4, i5⟩ := HI.out W (Below.refl _ _)
  unfold Ins.val
  go_enter Try.func41, Try.ntmps41
  go_wp2_with fail
  clear hW i0 i1 i2 i3 i4 i5
  refine (QU.out _).mono ?_
  rintro e w1 ⟨⟨ua, uc, rfl⟩, hB1⟩
  have HB1 := Lib.hid hB1
  have HR1 := Lib.hid (HR.out.keep hB1)
  clear hB1
  obtain ⟨i0, i1, i2, i3, i4, i5⟩ := HI.out w1 HB1.out
  have r6 : w1.cell? ⟨G.mb, 6, none⟩ = some (.slice (some ⟨G.rg, 0, none⟩) s.regs.length s.regs.length) := HR1.out.cell 6
  have vx := HR1.out.reg Hxr.out
  go_wp2_with fail
  go_quiet (fail)
  generalize hV : World.drewN _ _ = w2
  have HB2 := Lib.hid (below_drawn2 HB1.out hV)
  have HR2 := Lib.hid (HR1.out.keep (self_drawn hV))
  clear hV
  clear i0 i1 i2 i3 i4 i5 r6 vx
  obtain ⟨i0, i1, i2, i3, i4, i5⟩ := HI.out w2 HB2.out
  have r6 : w2.cell? ⟨G.mb, 6, none⟩ = some (.slice (some ⟨G.rg, 0, none⟩) s.regs.length s.regs.length) := HR2.out.cell 6
  have vy := HR2.out.reg Hyr.out
  go_wp2_with fail
  go_quiet (fail)
  generalize hV : World.drewN _ _ = w3
  have HB3 := Lib.hid (below_drawn2 HB2.out hV)
  have HR3 := Lib.hid (HR2.out.keep (self_drawn hV))
  clear hV
  clear i0 i1 i2 i3 i4 i5 r6 vy
  obtain ⟨i0, i1, i2, i3, i4, i5⟩ := HI.out w3 HB3.out
  obtain ⟨er, her⟩ : ∃ er, Wd.err imm (s.reg y) = er := ⟨_, rfl⟩
  obtain ⟨rv, hrv⟩ : ∃ rv, Wd.apply imm (s.reg x) (s.reg y) = rv := ⟨_, rfl⟩
  have HER := Lib.hid her
  have HRV := Lib.hid hrv
  have QA : Hid (∀ w', Calls Try.prog 56 #[.int .u8 imm, .int .i32 (s.reg x), .int .i32 (s.reg y)] w' fun e w'' => e = .returned (.tuple #[.int .i32 rv, .int .i64 er]) ∧ w' = w'') := fun w' => by
    have h9 := refApply_any imm (s.reg x) (s.reg y) ⟨by omega, by omega⟩ Kx.out Ky.out w'
    rw [her, hrv] at h9
    exact h9
  clear her hrv
  go_wp2_with fail
  clear i0 i1 i2 i3 i4 i5
  refine (QA.out _).mono ?_
  rintro e wq ⟨rfl, rfl⟩
  by_cases h0 : er = 0
  · have HE0 := Lib.hid h0
    subst h0
    obtain ⟨i0, i1, i2, i3, i4, i5⟩ := HI.out w3 HB3.out
    go_wp2_with fail
    clear i0 i1 i2 i3 i4 i5
    refine (QD.out _).mono ?_
    rintro e w4 ⟨rfl, hB9⟩
    have HB4 : Hid (Below W.heap.size W w4) := below_then HB3.out hB9
    have HR4 := Lib.hid (HR3.out.keep hB9)
    clear hB9
    have r6 : w4.cell? ⟨G.mb, 6, none⟩ = some (.slice (some ⟨G.rg, 0, none⟩) s.regs.length s.regs.length) := HR4.out.cell 6
    have vd := HR4.out.reg Hdr.out
    have zd : w4.frozen? ⟨G.rg, d, none⟩ = false := frozen_heap HR4.out.regs d
    go_wp2_with fail
    go_ret
    exact RStep.ok (by rw [step_3, if_pos HER.out, HRV.out]) (HR4.out.setReg (k := d) (by have := Wd.W_apply imm Kx.out Ky.out; rwa [HRV.out] at this)) (((HBW.out.mono HN0.out).trans (HB4.out.mono HNW.out)).setCell HR4.out.rg_ _)
  · have h0' : (er != 0) = true := by simpa using h0
    have HE0 := Lib.hid h0
    clear h0
    go_wp2_with fail
    go_ret
    exact RStep.trap (by rw [step_3, if_neg (by rw [HER.out]; exact HE0.out), HER.out]) HR3.out ((HBW.out.mono HN0.out).trans (HB3.out.mono HNW.out))

end Go.Proofs.Ytjdfcpjlmfaaaaa

/-
  Contract: step (package ontimeref17: machine), operation by operation.
-/

namespace Go.Proofs.Ytjdfcpjlmfaaaaa
set_option linter.unusedVariables false
set_option linter.unusedSimpArgs false
open Go.RowKit
set_option maxRecDepth 100000
set_option maxHeartbeats 8000000
theorem rstep_13 (N : Nat) (G : RGeo) (sh : List (ByteArray × Int)) (names : List ByteArray) (inp : List Int) (d : Int) (x : Int) (y : Int) (c : Nat) (sym : ByteArray) (w : World) (uv : Value) (n : Int) (s : St) (h : RefAt N G sh w uv n 0 s) (hN : N ≤ w.heap.size)  (hc4 : c < 4) :
    Calls Try.prog 41 #[.pointer (some ⟨G.mb, 0, none⟩), Ins.val ⟨13, d, x, y, ((c : Nat) : Int), sym⟩] w (RStep N G sh n s w (step names inp ⟨13, d, x, y, ((c : Nat) : Int), sym⟩ s)) := by
  obtain ⟨W, hW⟩ : ∃ W : World, w.alloc (.cells #[.int .u8 13, .int .i64 d, .int .i64 x, .int .i64 y, .int .i64 ((c : Nat) : Int), .string sym] 77) = W := ⟨_, rfl⟩
  have HBW : Hid (Below w.heap.size w W) := by show Below _ _ _; rw [← hW]; exact (Below.refl _ _).alloc (Nat.le_refl _) _
  have HX : Hid (W.heap[w.heap.size]? = some (.cells #[.int .u8 13, .int .i64 d, .int .i64 x, .int .i64 y, .int .i64 ((c : Nat) : Int), .string sym] 77)) := by show _ = _; rw [← hW]; exact (MapKept.heap_alloc w _).1
  have HI : Hid (∀ w', Below W.heap.size W w' → ICells w.heap.size ⟨13, d, x, y, ((c : Nat) : Int), sym⟩ w') := fun w' hb => ICells.of ((hb.block _ (lt_heap HX.out)).trans HX.out)
  have HR := Lib.hid (h.keep HBW.out)
  have HH := Lib.hid h
  have HNW : Hid (N ≤ W.heap.size) := Nat.le_trans hN HBW.out.size
  have HN0 := Lib.hid hN
  clear h hN
  have c0 : (0 : Int) ≤ (c : Int) := by omega
  have c1 : (c : Int) < 4 := by omega
  have cw := HR.out.cntw (k := c) hc4
  have cw0 := cw.1
  have cw1 := cw.2
  have CW := Lib.hid cw
  have HC4 := Lib.hid hc4
  clear cw hc4
  have QD : Hid (∀ w', Calls Try.prog 31 #[.agg #[.int .u8 13, .int .i64 d, .int .i64 x, .int .i64 y, .int .i64 ((c : Nat) : Int), .string sym]] w' fun e w'' => e = .returned (.tuple #[.int .i64 0, .bool false]) ∧ Below w'.heap.size w' w'') := fun w' => rDefines_any ⟨13, d, x, y, ((c : Nat) : Int), sym⟩ (by show (0 : Int) ≤ 13; decide) (by show (13 : Int) ≤ 255; decide) _ _ rfl rfl w'
  have QU : Hid (∀ w', Calls Try.prog 32 #[.agg #[.int .u8 13, .int .i64 d, .int .i64 x, .int .i64 y, .int .i64 ((c : Nat) : Int), .string sym]] w' fun e w'' => (∃ a c, e = .returned (.slice a 0 c)) ∧ Below w'.heap.size w' w'') := fun w' => rUses_any ⟨13, d, x, y, ((c : Nat) : Int), sym⟩ (by show (0 : Int) ≤ 13; decide) (by show (13 : Int) ≤ 255; decide) 0 rfl w'
  obtain ⟨i0, i1, i2, i3, i4, i5⟩ := HI.out W (Below.refl _ _)
  unfold Ins.val
  go_enter Try.func41, Try.ntmps41
  go_wp2_with fail
  clear hW i0 i1 i2 i3 i4 i5
  refine (QU.out _).mono ?_
  rintro e w1 ⟨⟨ua, uc, rfl⟩, hB1⟩
  have HB1 := Lib.hid hB1
  have HR1 := Lib.hid (HR.out.keep hB1)
  clear hB1
  obtain ⟨i0, i1, i2, i3, i4, i5⟩ := HI.out w1 HB1.out
  have r7 : w1.cell? ⟨G.mb, 7, none⟩ = some (.slice (some ⟨G.cb, 0, none⟩) 4 4) := HR1.out.cell 7
  have cc : w1.cell? ⟨G.cb, c, none⟩ = some (.int .i32 (s.count c)) := HR1.out.cnt HC4.out
  have cz : w1.frozen? ⟨G.cb, c, none⟩ = false := frozen_heap HR1.out.cnts c
  go_wp2_with fail
  go_region
  generalize hV : World.drew _ = w2
  have HST : Hid (∃ V, w2 = (World.setCell V ⟨G.cb, c, none⟩ (.int .i32 0)).drew ∧ Below w1.heap.size w1 V) := ⟨_, hV.symm, by first | exact Below.refl _ _ | exact (Below.refl _ _).drew⟩
  obtain ⟨V, hVe, hVB⟩ := HST.out
  have HR2 : Hid (RefAt N G sh w2 uv n 0 (s.setCount c 0)) := by show RefAt _ _ _ _ _ _ _ _; rw [hVe]; exact ((HR1.out.keep hVB).setCount (k := c) ⟨by omega, by omega⟩).keep (Below.refl _ _).drew
  have HX2 : Hid (ICells w.heap.size ⟨13, d, x, y, ((c : Nat) : Int), sym⟩ w2) := by
    have h9 := HI.out V (below_then HB1.out hVB)
    have hne : w.heap.size ≠ G.cb := fun e => absurd (lt_heap HH.out.cnts) (by omega)
    show ICells _ _ _
    rw [hVe]
    exact h9.other hne
  have HZ2 : Hid (Below N w w2) := by
    show Below _ _ _
    rw [hVe]
    exact (((HBW.out.mono HN0.out).trans ((below_then HB1.out hVB).mono HNW.out)).setCell HR1.out.cb_ _).drew
  clear hV HST hVe hVB
  clear i0 i1 i2 i3 i4 i5 r7 cc cz
  obtain ⟨i0, i1, i2, i3, i4, i5⟩ := HX2.out
  go_wp2_with fail
  clear i0 i1 i2 i3 i4 i5
  refine (QD.out _).mono ?_
  rintro e wz ⟨rfl, hB9⟩
  have HRZ := Lib.hid (HR2.out.keep hB9)
  have HZZ := Lib.hid (HZ2.out.trans (hB9.mono (Nat.le_trans HN0.out HZ2.out.size)))
  clear hB9
  go_wp2_with fail
  go_ret
  exact RStep.ok step_13 HRZ.out HZZ.out

theorem rstep_14 (N : Nat) (G : RGeo) (sh : List (ByteArray × Int)) (names : List ByteArray) (inp : List Int) (d : Int) (x : Int) (y : Int) (c : Nat) (sym : ByteArray) (w : World) (uv : Value) (n : Int) (s : St) (h : RefAt N G sh w uv n 0 s) (hN : N ≤ w.heap.size)  (hc4 : c < 4) :
    Calls Try.prog 41 #[.pointer (some ⟨G.mb, 0, none⟩), Ins.val ⟨14, d, x, y, ((c : Nat) : Int), sym⟩] w (RStep N G sh n s w (step names inp ⟨14, d, x, y, ((c : Nat) : Int), sym⟩ s)) := by
  obtain ⟨W, hW⟩ : ∃ W : World, w.alloc (.cells #[.int .u8 14, .int .i64 d, .int .i64 x, .int .i64 y, .int .i64 ((c : Nat) : Int), .string sym] 77) = W := ⟨_, rfl⟩
  have HBW : Hid (Below w.heap.size w W) := by show Below _ _ _; rw [← hW]; exact (Below.refl _ _).alloc (Nat.le_refl _) _
  have HX : Hid (W.heap[w.heap.size]? = some (.cells #[.int .u8 14, .int .i64 d, .int .i64 x, .int .i64 y, .int .i64 ((c : Nat) : Int), .string sym] 77)) := by show _ = _; rw [← hW]; exact (MapKept.heap_alloc w _).1
  have HI : Hid (∀ w', Below W.heap.size W w' → ICells w.heap.size ⟨14, d, x, y, ((c : Nat) : Int), sym⟩ w') := fun w' hb => ICells.of ((hb.block _ (lt_heap HX.out)).trans HX.out)
  have HR := Lib.hid (h.keep HBW.out)
  have HH := Lib.hid h
  have HNW : Hid (N ≤ W.heap.size) := Nat.le_trans hN HBW.out.size
  have HN0 := Lib.hid hN
  clear h hN
  have c0 : (0 : Int) ≤ (c : Int) := by omega
  have c1 : (c : Int) < 4 := by omega
  have cw := HR.out.cntw (k := c) hc4
  have cw0 := cw.1
  have cw1 := cw.2
  have CW := Lib.hid cw
  have HC4 := Lib.hid hc4
  clear cw hc4
  have QD : Hid (∀ w', Calls Try.prog 31 #[.agg #[.int .u8 14, .int .i64 d, .int .i64 x, .int .i64 y, .int .i64 ((c : Nat) : Int), .string sym]] w' fun e w'' => e = .returned (.tuple #[.int .i64 0, .bool false]) ∧ Below w'.heap.size w' w'') := fun w' => rDefines_any ⟨14, d, x, y, ((c : Nat) : Int), sym⟩ (by show (0 : Int) ≤ 14; decide) (by show (14 : Int) ≤ 255; decide) _ _ rfl rfl w'
  have QU : Hid (∀ w', Calls Try.prog 32 #[.agg #[.int .u8 14, .int .i64 d, .int .i64 x, .int .i64 y, .int .i64 ((c : Nat) : Int), .string sym]] w' fun e w'' => (∃ a c, e = .returned (.slice a 0 c)) ∧ Below w'.heap.size w' w'') := fun w' => rUses_any ⟨14, d, x, y, ((c : Nat) : Int), sym⟩ (by show (0 : Int) ≤ 14; decide) (by show (14 : Int) ≤ 255; decide) 0 rfl w'
  obtain ⟨i0, i1, i2, i3, i4, i5⟩ := HI.out W (Below.refl _ _)
  unfold Ins.val
  go_enter Try.func41, Try.ntmps41
  go_wp2_with fail
  clear hW i0 i1 i2 i3 i4 i5
  refine (QU.out _).mono ?_
  rintro e w1 ⟨⟨ua, uc, rfl⟩, hB1⟩
  have HB1 := Lib.hid hB1
  have HR1 := Lib.hid (HR.out.keep hB1)
  clear hB1
  obtain ⟨i0, i1, i2, i3, i4, i5⟩ := HI.out w1 HB1.out
  have r7 : w1.cell? ⟨G.mb, 7, none⟩ = some (.slice (some ⟨G.cb, 0, none⟩) 4 4) := HR1.out.cell 7
  have cc : w1.cell? ⟨G.cb, c, none⟩ = some (.int .i32 (s.count c)) := HR1.out.cnt HC4.out
  have cz : w1.frozen? ⟨G.cb, c, none⟩ = false := frozen_heap HR1.out.cnts c
  go_wp2_with fail
  go_region
  generalize hV : World.drew _ = w2
  have HST : Hid (∃ V, w2 = (World.setCell V ⟨G.cb, c, none⟩ (.int .i32 (wrap32 (s.count c + 1)))).drew ∧ Below w1.heap.size w1 V) := ⟨_, hV.symm, by first | exact Below.refl _ _ | exact (Below.refl _ _).drew⟩
  obtain ⟨V, hVe, hVB⟩ := HST.out
  have HR2 : Hid (RefAt N G sh w2 uv n 0 (s.setCount c (wrap32 (s.count c + 1)))) := by show RefAt _ _ _ _ _ _ _ _; rw [hVe]; exact ((HR1.out.keep hVB).setCount (k := c) (Wd.W_wrap _)).keep (Below.refl _ _).drew
  have HX2 : Hid (ICells w.heap.size ⟨14, d, x, y, ((c : Nat) : Int), sym⟩ w2) := by
    have h9 := HI.out V (below_then HB1.out hVB)
    have hne : w.heap.size ≠ G.cb := fun e => absurd (lt_heap HH.out.cnts) (by omega)
    show ICells _ _ _
    rw [hVe]
    exact h9.other hne
  have HZ2 : Hid (Below N w w2) := by
    show Below _ _ _
    rw [hVe]
    exact (((HBW.out.mono HN0.out).trans ((below_then HB1.out hVB).mono HNW.out)).setCell HR1.out.cb_ _).drew
  clear hV HST hVe hVB
  clear i0 i1 i2 i3 i4 i5 r7 cc cz
  obtain ⟨i0, i1, i2, i3, i4, i5⟩ := HX2.out
  go_wp2_with fail
  clear i0 i1 i2 i3 i4 i5
  refine (QD.out _).mono ?_
  rintro e wz ⟨rfl, hB9⟩
  have HRZ := Lib.hid (HR2.out.keep hB9)
  have HZZ := Lib.hid (HZ2.out.trans (hB9.mono (Nat.le_trans HN0.out HZ2.out.size)))
  clear hB9
  go_wp2_with fail
  go_ret
  exact RStep.ok step_14 HRZ.out HZZ.out

theorem rstep_15 (N : Nat) (G : RGeo) (sh : List (ByteArray × Int)) (names : List ByteArray) (inp : List Int) (d : Nat) (x : Int) (y : Int) (c : Nat) (sym : ByteArray) (w : World) (uv : Value) (n : Int) (s : St) (h : RefAt N G sh w uv n 0 s) (hN : N ≤ w.heap.size) (hd : d < s.regs.length) (hc4 : c < 4) :
    Calls Try.prog 41 #[.pointer (some ⟨G.mb, 0, none⟩), Ins.val ⟨15, ((d : Nat) : Int), x, y, ((c : Nat) : Int), sym⟩] w (RStep N G sh n s w (step names inp ⟨15, ((d : Nat) : Int), x, y, ((c : Nat) : Int), sym⟩ s)) := by
  obtain ⟨W, hW⟩ : ∃ W : World, w.alloc (.cells #[.int .u8 15, .int .i64 ((d : Nat) : Int), .int .i64 x, .int .i64 y, .int .i64 ((c : Nat) : Int), .string sym] 77) = W := ⟨_, rfl⟩
  have HBW : Hid (Below w.heap.size w W) := by show Below _ _ _; rw [← hW]; exact (Below.refl _ _).alloc (Nat.le_refl _) _
  have HX : Hid (W.heap[w.heap.size]? = some (.cells #[.int .u8 15, .int .i64 ((d : Nat) : Int), .int .i64 x, .int .i64 y, .int .i64 ((c : Nat) : Int), .string sym] 77)) := by show _ = _; rw [← hW]; exact (MapKept.heap_alloc w _).1
  have HI : Hid (∀ w', Below W.heap.size W w' → ICells w.heap.size ⟨15, ((d : Nat) : Int), x, y, ((c : Nat) : Int), sym⟩ w') := fun w' hb => ICells.of ((hb.block _ (lt_heap HX.out)).trans HX.out)
  have HR := Lib.hid (h.keep HBW.out)
  have HH := Lib.hid h
  have HNW : Hid (N ≤ W.heap.size) := Nat.le_trans hN HBW.out.size
  have HN0 := Lib.hid hN
  have Hdr := Lib.hid hd
  have d0 : (0 : Int) ≤ (d : Int) := by omega
  have d1 : (d : Int) < (s.regs.length : Int) := by omega
  have wd := HR.out.regw hd
  have d2 := wd.1
  have d3 := wd.2
  have Kd := Lib.hid wd
  clear wd hd
  clear h hN
  have c0 : (0 : Int) ≤ (c : Int) := by omega
  have c1 : (c : Int) < 4 := by omega
  have cw := HR.out.cntw (k := c) hc4
  have cw0 := cw.1
  have cw1 := cw.2
  have CW := Lib.hid cw
  have HC4 := Lib.hid hc4
  clear cw hc4
  have QD : Hid (∀ w', Calls Try.prog 31 #[.agg #[.int .u8 15, .int .i64 ((d : Nat) : Int), .int .i64 x, .int .i64 y, .int .i64 ((c : Nat) : Int), .string sym]] w' fun e w'' => e = .returned (.tuple #[.int .i64 ((d : Nat) : Int), .bool true]) ∧ Below w'.heap.size w' w'') := fun w' => rDefines_any ⟨15, ((d : Nat) : Int), x, y, ((c : Nat) : Int), sym⟩ (by show (0 : Int) ≤ 15; decide) (by show (15 : Int) ≤ 255; decide) _ _ rfl rfl w'
  have QU : Hid (∀ w', Calls Try.prog 32 #[.agg #[.int .u8 15, .int .i64 ((d : Nat) : Int), .int .i64 x, .int .i64 y, .int .i64 ((c : Nat) : Int), .string sym]] w' fun e w'' => (∃ a c, e = .returned (.slice a 0 c)) ∧ Below w'.heap.size w' w'') := fun w' => rUses_any ⟨15, ((d : Nat) : Int), x, y, ((c : Nat) : Int), sym⟩ (by show (0 : Int) ≤ 15; decide) (by show (15 : Int) ≤ 255; decide) 0 rfl w'
  obtain ⟨i0, i1, i2, i3, i4, i5⟩ := HI.out W (Below.refl _ _)
  unfold Ins.val
  go_enter Try.func41, Try.ntmps41
  go_wp2_with fail
  clear hW i0 i1 i2 i3 i4 i5
  refine (QU.out _).mono ?_
  rintro e w1 ⟨⟨ua, uc, rfl⟩, hB1⟩
  have HB1 := Lib.hid hB1
  have HR1 := Lib.hid (HR.out.keep hB1)
  clear hB1
  obtain ⟨i0, i1, i2, i3, i4, i5⟩ := HI.out w1 HB1.out
  have r7 : w1.cell? ⟨G.mb, 7, none⟩ = some (.slice (some ⟨G.cb, 0, none⟩) 4 4) := HR1.out.cell 7
  have cc : w1.cell? ⟨G.cb, c, none⟩ = some (.int .i32 (s.count c)) := HR1.out.cnt HC4.out
  have cz : w1.frozen? ⟨G.cb, c, none⟩ = false := frozen_heap HR1.out.cnts c
  go_wp2_with fail
  go_quiet (fail)
  generalize hV : World.drewN _ _ = w2
  have HB2 := Lib.hid (below_drawn2 HB1.out hV)
  have HR2 := Lib.hid (HR1.out.keep (self_drawn hV))
  clear hV
  clear i0 i1 i2 i3 i4 i5 r7 cc cz
  obtain ⟨i0, i1, i2, i3, i4, i5⟩ := HI.out w2 HB2.out
  go_wp2_with fail
  clear i0 i1 i2 i3 i4 i5
  refine (QD.out _).mono ?_
  rintro e w3 ⟨rfl, hB9⟩
  have HB3 : Hid (Below W.heap.size W w3) := below_then HB2.out hB9
  have HR3 := Lib.hid (HR2.out.keep hB9)
  clear hB9
  have r6 : w3.cell? ⟨G.mb, 6, none⟩ = some (.slice (some ⟨G.rg, 0, none⟩) s.regs.length s.regs.length) := HR3.out.cell 6
  have vd := HR3.out.reg Hdr.out
  have zd : w3.frozen? ⟨G.rg, d, none⟩ = false := frozen_heap HR3.out.regs d
  go_wp2_with fail
  go_ret
  exact RStep.ok (step_15) (HR3.out.setReg (k := d) CW.out) (((HBW.out.mono HN0.out).trans (HB3.out.mono HNW.out)).setCell HR3.out.rg_ _)

theorem rstep_16 (N : Nat) (G : RGeo) (sh : List (ByteArray × Int)) (names : List ByteArray) (inp : List Int) (d : Int) (x : Nat) (y : Int) (imm : Int) (sym : ByteArray) (w : World) (uv : Value) (n : Int) (s : St) (h : RefAt N G sh w uv n 0 s) (hN : N ≤ w.heap.size)  (hc4 : x < 4) (hi0 : 0 ≤ imm) (hi1 : imm ≤ 131071) :
    Calls Try.prog 41 #[.pointer (some ⟨G.mb, 0, none⟩), Ins.val ⟨16, d, ((x : Nat) : Int), y, imm, sym⟩] w (RStep N G sh n s w (step names inp ⟨16, d, ((x : Nat) : Int), y, imm, sym⟩ s)) := by
  obtain ⟨W, hW⟩ : ∃ W : World, w.alloc (.cells #[.int .u8 16, .int .i64 d, .int .i64 ((x : Nat) : Int), .int .i64 y, .int .i64 imm, .string sym] 77) = W := ⟨_, rfl⟩
  have HBW : Hid (Below w.heap.size w W) := by show Below _ _ _; rw [← hW]; exact (Below.refl _ _).alloc (Nat.le_refl _) _
  have HX : Hid (W.heap[w.heap.size]? = some (.cells #[.int .u8 16, .int .i64 d, .int .i64 ((x : Nat) : Int), .int .i64 y, .int .i64 imm, .string sym] 77)) := by show _ = _; rw [← hW]; exact (MapKept.heap_alloc w _).1
  have HI : Hid (∀ w', Below W.heap.size W w' → ICells w.heap.size ⟨16, d, ((x : Nat) : Int), y, imm, sym⟩ w') := fun w' hb => ICells.of ((hb.block _ (lt_heap HX.out)).trans HX.out)
  have HR := Lib.hid (h.keep HBW.out)
  have HH := Lib.hid h
  have HNW : Hid (N ≤ W.heap.size) := Nat.le_trans hN HBW.out.size
  have HN0 := Lib.hid hN
  clear h hN
  have c0 : (0 : Int) ≤ (x : Int) := by omega
  have c1 : (x : Int) < 4 := by omega
  have cw := HR.out.cntw (k := x) hc4
  have cw0 := cw.1
  have cw1 := cw.2
  have CW := Lib.hid cw
  have HC4 := Lib.hid hc4
  clear cw hc4
  have hs16 : step names inp ⟨16, d, ((x : Nat) : Int), y, imm, sym⟩ s = if s.count x < 0 ∨ imm ≤ s.count x then .error 11 else .ok s := rfl
  have HS16 := Lib.hid hs16
  clear hs16
  have QD : Hid (∀ w', Calls Try.prog 31 #[.agg #[.int .u8 16, .int .i64 d, .int .i64 ((x : Nat) : Int), .int .i64 y, .int .i64 imm, .string sym]] w' fun e w'' => e = .returned (.tuple #[.int .i64 0, .bool false]) ∧ Below w'.heap.size w' w'') := fun w' => rDefines_any ⟨16, d, ((x : Nat) : Int), y, imm, sym⟩ (by show (0 : Int) ≤ 16; decide) (by show (16 : Int) ≤ 255; decide) _ _ rfl rfl w'
  have QU : Hid (∀ w', Calls Try.prog 32 #[.agg #[.int .u8 16, .int .i64 d, .int .i64 ((x : Nat) : Int), .int .i64 y, .int .i64 imm, .string sym]] w' fun e w'' => (∃ a c, e = .returned (.slice a 0 c)) ∧ Below w'.heap.size w' w'') := fun w' => rUses_any ⟨16, d, ((x : Nat) : Int), y, imm, sym⟩ (by show (0 : Int) ≤ 16; decide) (by show (16 : Int) ≤ 255; decide) 0 rfl w'
  obtain ⟨i0, i1, i2, i3, i4, i5⟩ := HI.out W (Below.refl _ _)
  unfold Ins.val
  go_enter Try.func41, Try.ntmps41
  go_wp2_with fail
  clear hW i0 i1 i2 i3 i4 i5
  refine (QU.out _).mono ?_
  rintro e w1 ⟨⟨ua, uc, rfl⟩, hB1⟩
  have HB1 := Lib.hid hB1
  have HR1 := Lib.hid (HR.out.keep hB1)
  clear hB1
  obtain ⟨i0, i1, i2, i3, i4, i5⟩ := HI.out w1 HB1.out
  have r7 : w1.cell? ⟨G.mb, 7, none⟩ = some (.slice (some ⟨G.cb, 0, none⟩) 4 4) := HR1.out.cell 7
  have cc : w1.cell? ⟨G.cb, x, none⟩ = some (.int .i32 (s.count x)) := HR1.out.cnt HC4.out
  have cz : w1.frozen? ⟨G.cb, x, none⟩ = false := frozen_heap HR1.out.cnts x
  go_wp2_with fail
  go_quiet (fail)
  generalize hV : World.drewN _ _ = w2
  have HB2 := Lib.hid (below_drawn2 HB1.out hV)
  have HR2 := Lib.hid (HR1.out.keep (self_drawn hV))
  clear hV
  clear i0 i1 i2 i3 i4 i5 r7 cc cz
  obtain ⟨i0, i1, i2, i3, i4, i5⟩ := HI.out w2 HB2.out
  by_cases hc : s.count x < 0 ∨ imm ≤ s.count x
  · have hc' : s.count x < 0 ∨ (decide (s.count x < 0) = false ∧ imm ≤ s.count x) := by
      by_cases q : s.count x < 0
      · exact .inl q
      · exact .inr ⟨by simpa using q, by omega⟩
    have HC := Lib.hid hc
    clear hc
    rcases hc' with q | ⟨q, q'⟩
    all_goals
      go_wp2_with fail
      go_ret
      exact RStep.trap (HS16.out.trans (if_pos HC.out)) HR2.out ((HBW.out.mono HN0.out).trans (HB2.out.mono HNW.out))
  · have q : decide (s.count x < 0) = false := by simp; omega
    have q' : decide (imm ≤ s.count x) = false := by simp; omega
    have HC := Lib.hid hc
    clear hc
    go_wp2_with fail
    clear i0 i1 i2 i3 i4 i5
    refine (QD.out _).mono ?_
    rintro e w3 ⟨rfl, hB9⟩
    have HB3 : Hid (Below W.heap.size W w3) := below_then HB2.out hB9
    have HR3 := Lib.hid (HR2.out.keep hB9)
    clear hB9
    go_wp2_with fail
    go_ret
    exact RStep.ok (HS16.out.trans (if_neg HC.out)) HR3.out ((HBW.out.mono HN0.out).trans (HB3.out.mono HNW.out))

end Go.Proofs.Ytjdfcpjlmfaaaaa

/-
  Contract: step (package ontimeref17: machine), operation by operation.
-/

namespace Go.Proofs.Ytjdfcpjlmfaaaaa
set_option linter.unusedVariables false
set_option linter.unusedSimpArgs false
open Go.RowKit
set_option maxRecDepth 100000
set_option maxHeartbeats 8000000
theorem rstep_4 (N : Nat) (G : RGeo) (sh : List (ByteArray × Int)) (names : List ByteArray) (inp : List Int) (d : Nat) (x : Nat) (y : Int) (imm : Int) (sym : ByteArray) (w : World) (uv : Value) (n : Int) (s : St) (h : RefAt N G sh w uv n 0 s) (hN : N ≤ w.heap.size) (hd : d < s.regs.length) (hx : x < s.regs.length) (arrs : List (ByteArray × Int)) (ha : ArrsAt w G.aa arrs) (hal : arrs.length = G.na) (hs : ArrsAt w G.sa sh) (hsl : sh.length = G.ns) (j : Nat) (hj : j < G.na) (hidx : idx arrs sym = (j : Int)) (hpos : pos names sym = j) :
    Calls Try.prog 41 #[.pointer (some ⟨G.mb, 0, none⟩), Ins.val ⟨4, ((d : Nat) : Int), ((x : Nat) : Int), y, imm, sym⟩] w (RStep N G sh n s w (step names inp ⟨4, ((d : Nat) : Int), ((x : Nat) : Int), y, imm, sym⟩ s)) := by
  obtain ⟨W, hW⟩ : ∃ W : World, w.alloc (.cells #[.int .u8 4, .int .i64 ((d : Nat) : Int), .int .i64 ((x : Nat) : Int), .int .i64 y, .int .i64 imm, .string sym] 77) = W := ⟨_, rfl⟩
  have HBW : Hid (Below w.heap.size w W) := by show Below _ _ _; rw [← hW]; exact (Below.refl _ _).alloc (Nat.le_refl _) _
  have HX : Hid (W.heap[w.heap.size]? = some (.cells #[.int .u8 4, .int .i64 ((d : Nat) : Int), .int .i64 ((x : Nat) : Int), .int .i64 y, .int .i64 imm, .string sym] 77)) := by show _ = _; rw [← hW]; exact (MapKept.heap_alloc w _).1
  have HI : Hid (∀ w', Below W.heap.size W w' → ICells w.heap.size ⟨4, ((d : Nat) : Int), ((x : Nat) : Int), y, imm, sym⟩ w') := fun w' hb => ICells.of ((hb.block _ (lt_heap HX.out)).trans HX.out)
  have HR := Lib.hid (h.keep HBW.out)
  have HH := Lib.hid h
  have HNW : Hid (N ≤ W.heap.size) := Nat.le_trans hN HBW.out.size
  have HN0 := Lib.hid hN
  have Hdr := Lib.hid hd
  have d0 : (0 : Int) ≤ (d : Int) := by omega
  have d1 : (d : Int) < (s.regs.length : Int) := by omega
  have wd := HR.out.regw hd
  have d2 := wd.1
  have d3 := wd.2
  have Kd := Lib.hid wd
  clear wd hd
  have Hxr := Lib.hid hx
  have x0 : (0 : Int) ≤ (x : Int) := by omega
  have x1 : (x : Int) < (s.regs.length : Int) := by omega
  have wx := HR.out.regw hx
  have x2 := wx.1
  have x3 := wx.2
  have Kx := Lib.hid wx
  clear wx hx
  clear h hN
  have HA := Lib.hid (ha.below HBW.out)
  have HAL := Lib.hid hal
  have HS := Lib.hid (hs.below HBW.out)
  have HSL := Lib.hid hsl
  have HIDX := Lib.hid hidx
  have HPOS := Lib.hid hpos
  have hjm : j < s.mem.length := by have := HR.out.nlen; omega
  have HJM := Lib.hid hjm
  have HJ := Lib.hid hj
  have HOW := Lib.hid (HR.out.rows _ hjm)
  have hrl := ownsRow_len HOW.out
  obtain ⟨ra, rc, hrv⟩ := ownsRow_val HOW.out
  have HRV := Lib.hid hrv
  obtain ⟨L, hL⟩ : ∃ L, (s.row (j)).length = L := ⟨_, rfl⟩
  have HL := Lib.hid hL
  rw [hL] at hrl HRV
  obtain ⟨ia0, hia0⟩ : ∃ k, idx arrs sym = k := ⟨_, rfl⟩
  have HIA := Lib.hid hia0
  have hj0 : (0 : Int) ≤ (j : Int) := by omega
  have hj1 : (j : Int) < (G.na : Int) := by omega
  have hstep : step names inp ⟨4, ((d : Nat) : Int), ((x : Nat) : Int), y, imm, sym⟩ s = (if s.reg x < 0 ∨ (L : Int) ≤ s.reg x then .error 10 else .ok (s.setReg d ((s.row (j)).getD (s.reg x).toNat 0))) := by
    rw [step_4, HPOS.out, HL.out]
  have HST := Lib.hid hstep
  clear ha hal hs hsl hidx hpos hjm hj hrv hL hia0 hstep
  have QD : Hid (∀ w', Calls Try.prog 31 #[.agg #[.int .u8 4, .int .i64 ((d : Nat) : Int), .int .i64 ((x : Nat) : Int), .int .i64 y, .int .i64 imm, .string sym]] w' fun e w'' => e = .returned (.tuple #[.int .i64 ((d : Nat) : Int), .bool true]) ∧ Below w'.heap.size w' w'') := fun w' => rDefines_any ⟨4, ((d : Nat) : Int), ((x : Nat) : Int), y, imm, sym⟩ (by show (0 : Int) ≤ 4; decide) (by show (4 : Int) ≤ 255; decide) _ _ rfl rfl w'
  have QU : Hid (∀ w', Calls Try.prog 32 #[.agg #[.int .u8 4, .int .i64 ((d : Nat) : Int), .int .i64 ((x : Nat) : Int), .int .i64 y, .int .i64 imm, .string sym]] w' fun e w'' => (∃ a c, e = .returned (.slice a 1 c)) ∧ Below w'.heap.size w' w'') := fun w' => rUses_any ⟨4, ((d : Nat) : Int), ((x : Nat) : Int), y, imm, sym⟩ (by show (0 : Int) ≤ 4; decide) (by show (4 : Int) ≤ 255; decide) 1 rfl w'
  obtain ⟨i0, i1, i2, i3, i4, i5⟩ := HI.out W (Below.refl _ _)
  unfold Ins.val
  go_enter Try.func41, Try.ntmps41
  go_wp2_with fail
  clear hW i0 i1 i2 i3 i4 i5
  refine (QU.out _).mono ?_
  rintro e w1 ⟨⟨ua, uc, rfl⟩, hB1⟩
  have HB1 := Lib.hid hB1
  have HR1 := Lib.hid (HR.out.keep hB1)
  clear hB1
  obtain ⟨i0, i1, i2, i3, i4, i5⟩ := HI.out w1 HB1.out
  have r6 : w1.cell? ⟨G.mb, 6, none⟩ = some (.slice (some ⟨G.rg, 0, none⟩) s.regs.length s.regs.length) := HR1.out.cell 6
  have vx := HR1.out.reg Hxr.out
  go_wp2_with fail
  go_quiet (fail)
  generalize hV : World.drewN _ _ = w2
  have HB2 := Lib.hid (below_drawn2 HB1.out hV)
  have HR2 := Lib.hid (HR1.out.keep (self_drawn hV))
  clear hV
  clear i0 i1 i2 i3 i4 i5 r6 vx
  obtain ⟨i0, i1, i2, i3, i4, i5⟩ := HI.out w2 HB2.out
  have r9 : w2.cell? ⟨G.mb, 9, none⟩ = some (.slice G.oa G.na G.oc) := HR2.out.cell 9
  clear i0 i1 i2 i3 i4 i5 r9
  obtain ⟨i0, i1, i2, i3, i4, i5⟩ := HI.out w2 HB2.out
  have r2 : w2.cell? ⟨G.mb, 2, none⟩ = some (.slice G.aa G.na G.ac) := HR2.out.cell 2
  have r9 : w2.cell? ⟨G.mb, 9, none⟩ = some (.slice G.oa G.na G.oc) := HR2.out.cell 9
  have QI : Hid (∀ k, Calls Try.prog 35 #[.slice G.aa G.na G.ac, .string sym] (World.drewN w2 k) fun e w' => e = .returned (.int .i64 ia0) ∧ ∃ q, w' = World.drewN w2 q) := fun k => rIndex_any arrs G.aa G.na G.ac sym ia0 _ (HA.out.below HB2.out) HAL.out HIA.out k
  rw [show ia0 = (j : Int) from HIA.out.symm.trans HIDX.out] at QI
  go_wp2_with fail
  go_quiet (first | (go_at_call 35; with_reducible exact QI.out _))
  generalize hV : World.drewN _ _ = w3
  have HB3 := Lib.hid (below_drawn2 HB2.out hV)
  have HR3 := Lib.hid (HR2.out.keep (self_drawn hV))
  clear hV
  clear i0 i1 i2 i3 i4 i5 r2 r9
  clear QI
  obtain ⟨ob, hob, hoc⟩ := HR3.out.rowA HJ.out
  rw [HRV.out] at hoc
  have HOB := Lib.hid hob
  clear hob
  obtain ⟨i0, i1, i2, i3, i4, i5⟩ := HI.out w3 HB3.out
  by_cases hc : s.reg x < 0 ∨ (L : Int) ≤ s.reg x
  · have hc' : s.reg x < 0 ∨ (decide (s.reg x < 0) = false ∧ (L : Int) ≤ s.reg x) := by
      by_cases q : s.reg x < 0
      · exact .inl q
      · exact .inr ⟨by simpa using q, by omega⟩
    have HC := Lib.hid hc
    clear hc
    rw [HOB.out]
    rcases hc' with q | ⟨q, q'⟩
    all_goals
      go_wp2_with fail
      go_ret
      exact RStep.trap (HST.out.trans (if_pos HC.out)) HR3.out ((HBW.out.mono HN0.out).trans (HB3.out.mono HNW.out))
  · have q : decide (s.reg x < 0) = false := by simp; omega
    obtain ⟨k, hk⟩ : ∃ k : Nat, s.reg x = (k : Int) := ⟨(s.reg x).toNat, by omega⟩
    have HK := Lib.hid hk
    have HC := Lib.hid hc
    have hkl : k < L := by omega
    have q' : decide ((L : Int) ≤ (k : Int)) = false := by simp; omega
    have hk0 : (0 : Int) ≤ (k : Int) := by omega
    have hk1 : (k : Int) < (L : Int) := by omega
    have hown := HOW.out
    rw [HL.out, HRV.out] at hown
    obtain ⟨b, rfl⟩ : ∃ b, ra = some ⟨b, 0, none⟩ := ownsRow_some hown (by omega)
    have hrv2 : G.rows.getD (j) undef = .slice (some ⟨b, 0, none⟩) (s.row (j)).length rc := by rw [HL.out]; exact HRV.out
    have HRV2 := Lib.hid hrv2
    have rw_ := HR3.out.rowCell HJM.out hrv2 (by rw [HL.out]; exact hkl)
    have rz_ : w3.frozen? ⟨b, k, none⟩ = false := HR3.out.rowFree HJM.out hrv2 k
    have HKL : Hid (k < (s.row (j)).length) := by show _ < _; rw [HL.out]; exact hkl
    have HWV : Hid (Wd.W ((s.row (j)).getD k 0)) := HR3.out.wf.mem _ (row_mem HJM.out) _ (getD_mem HKL.out)
    obtain ⟨rv0, hrv0⟩ : ∃ v, (s.row (j)).getD k 0 = v := ⟨_, rfl⟩
    have HRV0 := Lib.hid hrv0
    rw [hrv0] at rw_ HWV
    rw [hk] at q ⊢
    rw [HOB.out]
    clear hrv0 hown hrv2 hc hk
    clear i0 i1 i2 i3 i4 i5
    obtain ⟨i0, i1, i2, i3, i4, i5⟩ := HI.out w3 HB3.out
    go_wp2_with fail
    clear i0 i1 i2 i3 i4 i5 rw_ rz_ hoc
    refine (QD.out _).mono ?_
    rintro e w4 ⟨rfl, hB9⟩
    have HB4 : Hid (Below W.heap.size W w4) := below_then HB3.out hB9
    have HR4 := Lib.hid (HR3.out.keep hB9)
    clear hB9
    have r6 : w4.cell? ⟨G.mb, 6, none⟩ = some (.slice (some ⟨G.rg, 0, none⟩) s.regs.length s.regs.length) := HR4.out.cell 6
    have vd := HR4.out.reg Hdr.out
    have zd : w4.frozen? ⟨G.rg, d, none⟩ = false := frozen_heap HR4.out.regs d
    go_wp2_with fail
    go_ret
    exact RStep.ok (HST.out.trans ((if_neg HC.out).trans (by rw [HK.out, Int.toNat_natCast, HRV0.out]))) (HR4.out.setReg (k := d) HWV.out) (((HBW.out.mono HN0.out).trans (HB4.out.mono HNW.out)).setCell HR4.out.rg_ _)

theorem rstep_5 (N : Nat) (G : RGeo) (sh : List (ByteArray × Int)) (names : List ByteArray) (inp : List Int) (d : Int) (x : Nat) (y : Nat) (imm : Int) (sym : ByteArray) (w : World) (uv : Value) (n : Int) (s : St) (h : RefAt N G sh w uv n 0 s) (hN : N ≤ w.heap.size) (hx : x < s.regs.length) (hy : y < s.regs.length) (arrs : List (ByteArray × Int)) (ha : ArrsAt w G.aa arrs) (hal : arrs.length = G.na) (hs : ArrsAt w G.sa sh) (hsl : sh.length = G.ns) (j : Nat) (hj : j < G.na) (hidx : idx arrs sym = (j : Int)) (hpos : pos names sym = j) :
    Calls Try.prog 41 #[.pointer (some ⟨G.mb, 0, none⟩), Ins.val ⟨5, d, ((x : Nat) : Int), ((y : Nat) : Int), imm, sym⟩] w (RStep N G sh n s w (step names inp ⟨5, d, ((x : Nat) : Int), ((y : Nat) : Int), imm, sym⟩ s)) := by
  obtain ⟨W, hW⟩ : ∃ W : World, w.alloc (.cells #[.int .u8 5, .int .i64 d, .int .i64 ((x : Nat) : Int), .int .i64 ((y : Nat) : Int), .int .i64 imm, .string sym] 77) = W := ⟨_, rfl⟩
  have HBW : Hid (Below w.heap.size w W) := by show Below _ _ _; rw [← hW]; exact (Below.refl _ _).alloc (Nat.le_refl _) _
  have HX : Hid (W.heap[w.heap.size]? = some (.cells #[.int .u8 5, .int .i64 d, .int .i64 ((x : Nat) : Int), .int .i64 ((y : Nat) : Int), .int .i64 imm, .string sym] 77)) := by show _ = _; rw [← hW]; exact (MapKept.heap_alloc w _).1
  have HI : Hid (∀ w', Below W.heap.size W w' → ICells w.heap.size ⟨5, d, ((x : Nat) : Int), ((y : Nat) : Int), imm, sym⟩ w') := fun w' hb => ICells.of ((hb.block _ (lt_heap HX.out)).trans HX.out)
  have HR := Lib.hid (h.keep HBW.out)
  have HH := Lib.hid h
  have HNW : Hid (N ≤ W.heap.size) := Nat.le_trans hN HBW.out.size
  have HN0 := Lib.hid hN
  have Hxr := Lib.hid hx
  have x0 : (0 : Int) ≤ (x : Int) := by omega
  have x1 : (x : Int) < (s.regs.length : Int) := by omega
  have wx := HR.out.regw hx
  have x2 := wx.1
  have x3 := wx.2
  have Kx := Lib.hid wx
  clear wx hx
  have Hyr := Lib.hid hy
  have y0 : (0 : Int) ≤ (y : Int) := by omega
  have y1 : (y : Int) < (s.regs.length : Int) := by omega
  have wy := HR.out.regw hy
  have y2 := wy.1
  have y3 := wy.2
  have Ky := Lib.hid wy
  clear wy hy
  clear h hN
  have HA := Lib.hid (ha.below HBW.out)
  have HAL := Lib.hid hal
  have HS := Lib.hid (hs.below HBW.out)
  have HSL := Lib.hid hsl
  have HIDX := Lib.hid hidx
  have HPOS := Lib.hid hpos
  have hjm : j < s.mem.length := by have := HR.out.nlen; omega
  have HJM := Lib.hid hjm
  have HJ := Lib.hid hj
  have HOW := Lib.hid (HR.out.rows _ hjm)
  have hrl := ownsRow_len HOW.out
  obtain ⟨ra, rc, hrv⟩ := ownsRow_val HOW.out
  have HRV := Lib.hid hrv
  obtain ⟨L, hL⟩ : ∃ L, (s.row (j)).length = L := ⟨_, rfl⟩
  have HL := Lib.hid hL
  rw [hL] at hrl HRV
  obtain ⟨ia0, hia0⟩ : ∃ k, idx arrs sym = k := ⟨_, rfl⟩
  have HIA := Lib.hid hia0
  have hj0 : (0 : Int) ≤ (j : Int) := by omega
  have hj1 : (j : Int) < (G.na : Int) := by omega
  have hstep : step names inp ⟨5, d, ((x : Nat) : Int), ((y : Nat) : Int), imm, sym⟩ s = (if s.reg x < 0 ∨ (L : Int) ≤ s.reg x then .error 10 else .ok { s with mem := s.mem.set (j) ((s.row (j)).set (s.reg x).toNat (s.reg y)) }) := by
    rw [step_5, HPOS.out, HL.out]
  have HST := Lib.hid hstep
  clear ha hal hs hsl hidx hpos hjm hj hrv hL hia0 hstep
  have QD : Hid (∀ w', Calls Try.prog 31 #[.agg #[.int .u8 5, .int .i64 d, .int .i64 ((x : Nat) : Int), .int .i64 ((y : Nat) : Int), .int .i64 imm, .string sym]] w' fun e w'' => e = .returned (.tuple #[.int .i64 0, .bool false]) ∧ Below w'.heap.size w' w'') := fun w' => rDefines_any ⟨5, d, ((x : Nat) : Int), ((y : Nat) : Int), imm, sym⟩ (by show (0 : Int) ≤ 5; decide) (by show (5 : Int) ≤ 255; decide) _ _ rfl rfl w'
  have QU : Hid (∀ w', Calls Try.prog 32 #[.agg #[.int .u8 5, .int .i64 d, .int .i64 ((x : Nat) : Int), .int .i64 ((y : Nat) : Int), .int .i64 imm, .string sym]] w' fun e w'' => (∃ a c, e = .returned (.slice a 2 c)) ∧ Below w'.heap.size w' w'') := fun w' => rUses_any ⟨5, d, ((x : Nat) : Int), ((y : Nat) : Int), imm, sym⟩ (by show (0 : Int) ≤ 5; decide) (by show (5 : Int) ≤ 255; decide) 2 rfl w'
  obtain ⟨i0, i1, i2, i3, i4, i5⟩ := HI.out W (Below.refl _ _)
  unfold Ins.val
  go_enter Try.func41, Try.ntmps41
  go_wp2_with fail
  clear hW i0 i1 i2 i3 i4 i5
  refine (QU.out _).mono ?_
  rintro e w1 ⟨⟨ua, uc, rfl⟩, hB1⟩
  have HB1 := Lib.hid hB1
  have HR1 := Lib.hid (HR.out.keep hB1)
  clear hB1
  obtain ⟨i0, i1, i2, i3, i4, i5⟩ := HI.out w1 HB1.out
  have r6 : w1.cell? ⟨G.mb, 6, none⟩ = some (.slice (some ⟨G.rg, 0, none⟩) s.regs.length s.regs.length) := HR1.out.cell 6
  have vx := HR1.out.reg Hxr.out
  go_wp2_with fail
  go_quiet (fail)
  generalize hV : World.drewN _ _ = w2
  have HB2 := Lib.hid (below_drawn2 HB1.out hV)
  have HR2 := Lib.hid (HR1.out.keep (self_drawn hV))
  clear hV
  clear i0 i1 i2 i3 i4 i5 r6 vx
  obtain ⟨i0, i1, i2, i3, i4, i5⟩ := HI.out w2 HB2.out
  have r6 : w2.cell? ⟨G.mb, 6, none⟩ = some (.slice (some ⟨G.rg, 0, none⟩) s.regs.length s.regs.length) := HR2.out.cell 6
  have vy := HR2.out.reg Hyr.out
  go_wp2_with fail
  go_quiet (fail)
  generalize hV : World.drewN _ _ = w3
  have HB3 := Lib.hid (below_drawn2 HB2.out hV)
  have HR3 := Lib.hid (HR2.out.keep (self_drawn hV))
  clear hV
  clear i0 i1 i2 i3 i4 i5 r6 vy
  obtain ⟨i0, i1, i2, i3, i4, i5⟩ := HI.out w3 HB3.out
  have r9 : w3.cell? ⟨G.mb, 9, none⟩ = some (.slice G.oa G.na G.oc) := HR3.out.cell 9
  clear i0 i1 i2 i3 i4 i5 r9
  obtain ⟨i0, i1, i2, i3, i4, i5⟩ := HI.out w3 HB3.out
  have r2 : w3.cell? ⟨G.mb, 2, none⟩ = some (.slice G.aa G.na G.ac) := HR3.out.cell 2
  have r9 : w3.cell? ⟨G.mb, 9, none⟩ = some (.slice G.oa G.na G.oc) := HR3.out.cell 9
  have QI : Hid (∀ k, Calls Try.prog 35 #[.slice G.aa G.na G.ac, .string sym] (World.drewN w3 k) fun e w' => e = .returned (.int .i64 ia0) ∧ ∃ q, w' = World.drewN w3 q) := fun k => rIndex_any arrs G.aa G.na G.ac sym ia0 _ (HA.out.below HB3.out) HAL.out HIA.out k
  rw [show ia0 = (j : Int) from HIA.out.symm.trans HIDX.out] at QI
  go_wp2_with fail
  go_quiet (first | (go_at_call 35; with_reducible exact QI.out _))
  generalize hV : World.drewN _ _ = w4
  have HB4 := Lib.hid (below_drawn2 HB3.out hV)
  have HR4 := Lib.hid (HR3.out.keep (self_drawn hV))
  clear hV
  clear i0 i1 i2 i3 i4 i5 r2 r9
  clear QI
  obtain ⟨ob, hob, hoc⟩ := HR4.out.rowA HJ.out
  rw [HRV.out] at hoc
  have HOB := Lib.hid hob
  clear hob
  obtain ⟨i0, i1, i2, i3, i4, i5⟩ := HI.out w4 HB4.out
  by_cases hc : s.reg x < 0 ∨ (L : Int) ≤ s.reg x
  · have hc' : s.reg x < 0 ∨ (decide (s.reg x < 0) = false ∧ (L : Int) ≤ s.reg x) := by
      by_cases q : s.reg x < 0
      · exact .inl q
      · exact .inr ⟨by simpa using q, by omega⟩
    have HC := Lib.hid hc
    clear hc
    rw [HOB.out]
    rcases hc' with q | ⟨q, q'⟩
    all_goals
      go_wp2_with fail
      go_ret
      exact RStep.trap (HST.out.trans (if_pos HC.out)) HR4.out ((HBW.out.mono HN0.out).trans (HB4.out.mono HNW.out))
  · have q : decide (s.reg x < 0) = false := by simp; omega
    obtain ⟨k, hk⟩ : ∃ k : Nat, s.reg x = (k : Int) := ⟨(s.reg x).toNat, by omega⟩
    have HK := Lib.hid hk
    have HC := Lib.hid hc
    have hkl : k < L := by omega
    have q' : decide ((L : Int) ≤ (k : Int)) = false := by simp; omega
    have hk0 : (0 : Int) ≤ (k : Int) := by omega
    have hk1 : (k : Int) < (L : Int) := by omega
    have hown := HOW.out
    rw [HL.out, HRV.out] at hown
    obtain ⟨b, rfl⟩ : ∃ b, ra = some ⟨b, 0, none⟩ := ownsRow_some hown (by omega)
    have hrv2 : G.rows.getD (j) undef = .slice (some ⟨b, 0, none⟩) (s.row (j)).length rc := by rw [HL.out]; exact HRV.out
    have HRV2 := Lib.hid hrv2
    have rw_ := HR4.out.rowCell HJM.out hrv2 (by rw [HL.out]; exact hkl)
    have rz_ : w4.frozen? ⟨b, k, none⟩ = false := HR4.out.rowFree HJM.out hrv2 k
    have HKL : Hid (k < (s.row (j)).length) := by show _ < _; rw [HL.out]; exact hkl
    have HWV : Hid (Wd.W ((s.row (j)).getD k 0)) := HR4.out.wf.mem _ (row_mem HJM.out) _ (getD_mem HKL.out)
    obtain ⟨rv0, hrv0⟩ : ∃ v, (s.row (j)).getD k 0 = v := ⟨_, rfl⟩
    have HRV0 := Lib.hid hrv0
    rw [hrv0] at rw_ HWV
    rw [hk] at q ⊢
    rw [HOB.out]
    clear hrv0 hown hrv2 hc hk
    clear i0 i1 i2 i3 i4 i5
    obtain ⟨i0, i1, i2, i3, i4, i5⟩ := HI.out w4 HB4.out
    obtain ⟨wS, hS⟩ : ∃ wS : World, w4.setCell ⟨b, k, none⟩ (.int .i32 (s.reg y)) = wS := ⟨_, rfl⟩
    have HRS : Hid (RefAt N G sh wS uv n 0 { s with mem := s.mem.set (j) ((s.row (j)).set k (s.reg y)) }) := by show RefAt _ _ _ _ _ _ _ _; rw [← hS]; exact HR4.out.setRow HJM.out HRV2.out HKL.out Ky.out
    have hNb : N ≤ b ∧ b < w.heap.size := by
      have h9 := HH.out.rows _ HJM.out
      rw [HRV2.out] at h9
      exact ownsRow_lt h9 rfl
    have HNB := Lib.hid hNb
    have HZS : Hid (Below N w wS) := by show Below _ _ _; rw [← hS]; exact ((HBW.out.mono HN0.out).trans (HB4.out.mono HNW.out)).setCell HNB.out.1 _
    have HXS : Hid (ICells w.heap.size ⟨5, d, ((x : Nat) : Int), ((y : Nat) : Int), imm, sym⟩ wS) := by show ICells _ _ _; rw [← hS]; exact (HI.out _ HB4.out).other (by have := HNB.out; omega)
    clear hNb
    obtain ⟨e0, e1, e2, e3, e4, e5⟩ := HXS.out
    simp only at e0 e1 e2 e3 e4 e5
    go_wp2_with fail
    clear hS e0 e1 e2 e3 e4 e5
    clear i0 i1 i2 i3 i4 i5 rw_ rz_ hoc
    refine (QD.out _).mono ?_
    rintro e wz ⟨rfl, hB9⟩
    have HRZ := Lib.hid (HRS.out.keep hB9)
    have HZZ := Lib.hid (HZS.out.trans (hB9.mono (Nat.le_trans HN0.out HZS.out.size)))
    clear hB9
    go_wp2_with fail
    go_ret
    exact RStep.ok (HST.out.trans ((if_neg HC.out).trans (by rw [HK.out, Int.toNat_natCast]))) HRZ.out HZZ.out

end Go.Proofs.Ytjdfcpjlmfaaaaa

/-
  Contract: step (package ontimeref17: machine), operation by operation.
-/

namespace Go.Proofs.Ytjdfcpjlmfaaaaa
set_option linter.unusedVariables false
set_option linter.unusedSimpArgs false
open Go.RowKit
set_option maxRecDepth 100000
set_option maxHeartbeats 8000000
theorem rstep_6 (N : Nat) (G : RGeo) (sh : List (ByteArray × Int)) (names : List ByteArray) (inp : List Int) (d : Nat) (x : Nat) (y : Int) (imm : Int) (sym : ByteArray) (w : World) (uv : Value) (n : Int) (s : St) (h : RefAt N G sh w uv n 0 s) (hN : N ≤ w.heap.size) (hd : d < s.regs.length) (hx : x < s.regs.length) (arrs : List (ByteArray × Int)) (ha : ArrsAt w G.aa arrs) (hal : arrs.length = G.na) (hs : ArrsAt w G.sa sh) (hsl : sh.length = G.ns) (j : Nat) (hj : j < G.ns) (hidx : idx sh sym = (j : Int)) (hpos : pos names sym = G.na + j) :
    Calls Try.prog 41 #[.pointer (some ⟨G.mb, 0, none⟩), Ins.val ⟨6, ((d : Nat) : Int), ((x : Nat) : Int), y, imm, sym⟩] w (RStep N G sh n s w (step names inp ⟨6, ((d : Nat) : Int), ((x : Nat) : Int), y, imm, sym⟩ s)) := by
  obtain ⟨W, hW⟩ : ∃ W : World, w.alloc (.cells #[.int .u8 6, .int .i64 ((d : Nat) : Int), .int .i64 ((x : Nat) : Int), .int .i64 y, .int .i64 imm, .string sym] 77) = W := ⟨_, rfl⟩
  have HBW : Hid (Below w.heap.size w W) := by show Below _ _ _; rw [← hW]; exact (Below.refl _ _).alloc (Nat.le_refl _) _
  have HX : Hid (W.heap[w.heap.size]? = some (.cells #[.int .u8 6, .int .i64 ((d : Nat) : Int), .int .i64 ((x : Nat) : Int), .int .i64 y, .int .i64 imm, .string sym] 77)) := by show _ = _; rw [← hW]; exact (MapKept.heap_alloc w _).1
  have HI : Hid (∀ w', Below W.heap.size W w' → ICells w.heap.size ⟨6, ((d : Nat) : Int), ((x : Nat) : Int), y, imm, sym⟩ w') := fun w' hb => ICells.of ((hb.block _ (lt_heap HX.out)).trans HX.out)
  have HR := Lib.hid (h.keep HBW.out)
  have HH := Lib.hid h
  have HNW : Hid (N ≤ W.heap.size) := Nat.le_trans hN HBW.out.size
  have HN0 := Lib.hid hN
  have Hdr := Lib.hid hd
  have d0 : (0 : Int) ≤ (d : Int) := by omega
  have d1 : (d : Int) < (s.regs.length : Int) := by omega
  have wd := HR.out.regw hd
  have d2 := wd.1
  have d3 := wd.2
  have Kd := Lib.hid wd
  clear wd hd
  have Hxr := Lib.hid hx
  have x0 : (0 : Int) ≤ (x : Int) := by omega
  have x1 : (x : Int) < (s.regs.length : Int) := by omega
  have wx := HR.out.regw hx
  have x2 := wx.1
  have x3 := wx.2
  have Kx := Lib.hid wx
  clear wx hx
  clear h hN
  have HA := Lib.hid (ha.below HBW.out)
  have HAL := Lib.hid hal
  have HS := Lib.hid (hs.below HBW.out)
  have HSL := Lib.hid hsl
  have HIDX := Lib.hid hidx
  have HPOS := Lib.hid hpos
  have hjm : G.na + j < s.mem.length := by have := HR.out.nlen; omega
  have HJM := Lib.hid hjm
  have HJ := Lib.hid hj
  have HOW := Lib.hid (HR.out.rows _ hjm)
  have hrl := ownsRow_len HOW.out
  obtain ⟨ra, rc, hrv⟩ := ownsRow_val HOW.out
  have HRV := Lib.hid hrv
  obtain ⟨L, hL⟩ : ∃ L, (s.row (G.na + j)).length = L := ⟨_, rfl⟩
  have HL := Lib.hid hL
  rw [hL] at hrl HRV
  obtain ⟨ia0, hia0⟩ : ∃ k, idx arrs sym = k := ⟨_, rfl⟩
  have HIA := Lib.hid hia0
  have hj0 : (0 : Int) ≤ (j : Int) := by omega
  have hj1 : (j : Int) < (G.ns : Int) := by omega
  have hstep : step names inp ⟨6, ((d : Nat) : Int), ((x : Nat) : Int), y, imm, sym⟩ s = (if s.reg x < 0 ∨ (L : Int) ≤ s.reg x then .error 10 else .ok (s.setReg d ((s.row (G.na + j)).getD (s.reg x).toNat 0))) := by
    rw [step_6, HPOS.out, HL.out]
  have HST := Lib.hid hstep
  clear ha hal hs hsl hidx hpos hjm hj hrv hL hia0 hstep
  have QD : Hid (∀ w', Calls Try.prog 31 #[.agg #[.int .u8 6, .int .i64 ((d : Nat) : Int), .int .i64 ((x : Nat) : Int), .int .i64 y, .int .i64 imm, .string sym]] w' fun e w'' => e = .returned (.tuple #[.int .i64 ((d : Nat) : Int), .bool true]) ∧ Below w'.heap.size w' w'') := fun w' => rDefines_any ⟨6, ((d : Nat) : Int), ((x : Nat) : Int), y, imm, sym⟩ (by show (0 : Int) ≤ 6; decide) (by show (6 : Int) ≤ 255; decide) _ _ rfl rfl w'
  have QU : Hid (∀ w', Calls Try.prog 32 #[.agg #[.int .u8 6, .int .i64 ((d : Nat) : Int), .int .i64 ((x : Nat) : Int), .int .i64 y, .int .i64 imm, .string sym]] w' fun e w'' => (∃ a c, e = .returned (.slice a 1 c)) ∧ Below w'.heap.size w' w'') := fun w' => rUses_any ⟨6, ((d : Nat) : Int), ((x : Nat) : Int), y, imm, sym⟩ (by show (0 : Int) ≤ 6; decide) (by show (6 : Int) ≤ 255; decide) 1 rfl w'
  obtain ⟨i0, i1, i2, i3, i4, i5⟩ := HI.out W (Below.refl _ _)
  unfold Ins.val
  go_enter Try.func41, Try.ntmps41
  go_wp2_with fail
  clear hW i0 i1 i2 i3 i4 i5
  refine (QU.out _).mono ?_
  rintro e w1 ⟨⟨ua, uc, rfl⟩, hB1⟩
  have HB1 := Lib.hid hB1
  have HR1 := Lib.hid (HR.out.keep hB1)
  clear hB1
  obtain ⟨i0, i1, i2, i3, i4, i5⟩ := HI.out w1 HB1.out
  have r6 : w1.cell? ⟨G.mb, 6, none⟩ = some (.slice (some ⟨G.rg, 0, none⟩) s.regs.length s.regs.length) := HR1.out.cell 6
  have vx := HR1.out.reg Hxr.out
  go_wp2_with fail
  go_quiet (fail)
  generalize hV : World.drewN _ _ = w2
  have HB2 := Lib.hid (below_drawn2 HB1.out hV)
  have HR2 := Lib.hid (HR1.out.keep (self_drawn hV))
  clear hV
  clear i0 i1 i2 i3 i4 i5 r6 vx
  obtain ⟨i0, i1, i2, i3, i4, i5⟩ := HI.out w2 HB2.out
  have r9 : w2.cell? ⟨G.mb, 9, none⟩ = some (.slice G.oa G.na G.oc) := HR2.out.cell 9
  clear i0 i1 i2 i3 i4 i5 r9
  obtain ⟨i0, i1, i2, i3, i4, i5⟩ := HI.out w2 HB2.out
  have r2 : w2.cell? ⟨G.mb, 2, none⟩ = some (.slice G.aa G.na G.ac) := HR2.out.cell 2
  have r9 : w2.cell? ⟨G.mb, 9, none⟩ = some (.slice G.oa G.na G.oc) := HR2.out.cell 9
  have r10 : w2.cell? ⟨G.mb, 10, none⟩ = some (.slice G.pa G.ns G.pc) := HR2.out.cell 10
  have r4 : w2.cell? ⟨G.mb, 4, none⟩ = some (.slice G.sa G.ns G.sc) := HR2.out.cell 4
  have QI : Hid (∀ k, Calls Try.prog 35 #[.slice G.aa G.na G.ac, .string sym] (World.drewN w2 k) fun e w' => e = .returned (.int .i64 ia0) ∧ ∃ q, w' = World.drewN w2 q) := fun k => rIndex_any arrs G.aa G.na G.ac sym ia0 _ (HA.out.below HB2.out) HAL.out HIA.out k
  go_wp2_with fail
  go_quiet (first | (go_at_call 35; with_reducible exact QI.out _))
  generalize hV : World.drewN _ _ = w3
  have HB3 := Lib.hid (below_drawn2 HB2.out hV)
  have HR3 := Lib.hid (HR2.out.keep (self_drawn hV))
  clear hV
  clear i0 i1 i2 i3 i4 i5 r2 r9 r10 r4
  clear QI
  obtain ⟨i0, i1, i2, i3, i4, i5⟩ := HI.out w3 HB3.out
  have r10 : w3.cell? ⟨G.mb, 10, none⟩ = some (.slice G.pa G.ns G.pc) := HR3.out.cell 10
  have r4 : w3.cell? ⟨G.mb, 4, none⟩ = some (.slice G.sa G.ns G.sc) := HR3.out.cell 4
  have QI : Hid (∀ k, Calls Try.prog 35 #[.slice G.sa G.ns G.sc, .string sym] (World.drewN w3 k) fun e w' => e = .returned (.int .i64 (j : Int)) ∧ ∃ q, w' = World.drewN w3 q) := fun k => rIndex_any sh G.sa G.ns G.sc sym (j : Int) _ (HS.out.below HB3.out) HSL.out HIDX.out k
  go_wp2_with fail
  go_quiet (first | (go_at_call 35; with_reducible exact QI.out _))
  generalize hV : World.drewN _ _ = w4
  have HB4 := Lib.hid (below_drawn2 HB3.out hV)
  have HR4 := Lib.hid (HR3.out.keep (self_drawn hV))
  clear hV
  clear i0 i1 i2 i3 i4 i5 r10 r4
  clear QI
  obtain ⟨ob, hob, hoc⟩ := HR4.out.rowO HJ.out
  rw [HRV.out] at hoc
  have HOB := Lib.hid hob
  clear hob
  by_cases hc : s.reg x < 0 ∨ (L : Int) ≤ s.reg x
  · have hc' : s.reg x < 0 ∨ (decide (s.reg x < 0) = false ∧ (L : Int) ≤ s.reg x) := by
      by_cases q : s.reg x < 0
      · exact .inl q
      · exact .inr ⟨by simpa using q, by omega⟩
    have HC := Lib.hid hc
    clear hc
    rw [HOB.out]
    rcases hc' with q | ⟨q, q'⟩
    all_goals
      go_wp2_with fail
      go_ret
      exact RStep.trap (HST.out.trans (if_pos HC.out)) HR4.out ((HBW.out.mono HN0.out).trans (HB4.out.mono HNW.out))
  · have q : decide (s.reg x < 0) = false := by simp; omega
    obtain ⟨k, hk⟩ : ∃ k : Nat, s.reg x = (k : Int) := ⟨(s.reg x).toNat, by omega⟩
    have HK := Lib.hid hk
    have HC := Lib.hid hc
    have hkl : k < L := by omega
    have q' : decide ((L : Int) ≤ (k : Int)) = false := by simp; omega
    have hk0 : (0 : Int) ≤ (k : Int) := by omega
    have hk1 : (k : Int) < (L : Int) := by omega
    have hown := HOW.out
    rw [HL.out, HRV.out] at hown
    obtain ⟨b, rfl⟩ : ∃ b, ra = some ⟨b, 0, none⟩ := ownsRow_some hown (by omega)
    have hrv2 : G.rows.getD (G.na + j) undef = .slice (some ⟨b, 0, none⟩) (s.row (G.na + j)).length rc := by rw [HL.out]; exact HRV.out
    have HRV2 := Lib.hid hrv2
    have rw_ := HR4.out.rowCell HJM.out hrv2 (by rw [HL.out]; exact hkl)
    have rz_ : w4.frozen? ⟨b, k, none⟩ = false := HR4.out.rowFree HJM.out hrv2 k
    have HKL : Hid (k < (s.row (G.na + j)).length) := by show _ < _; rw [HL.out]; exact hkl
    have HWV : Hid (Wd.W ((s.row (G.na + j)).getD k 0)) := HR4.out.wf.mem _ (row_mem HJM.out) _ (getD_mem HKL.out)
    obtain ⟨rv0, hrv0⟩ : ∃ v, (s.row (G.na + j)).getD k 0 = v := ⟨_, rfl⟩
    have HRV0 := Lib.hid hrv0
    rw [hrv0] at rw_ HWV
    rw [hk] at q ⊢
    rw [HOB.out]
    clear hrv0 hown hrv2 hc hk
    obtain ⟨i0, i1, i2, i3, i4, i5⟩ := HI.out w4 HB4.out
    go_wp2_with fail
    clear i0 i1 i2 i3 i4 i5 rw_ rz_ hoc
    refine (QD.out _).mono ?_
    rintro e w5 ⟨rfl, hB9⟩
    have HB5 : Hid (Below W.heap.size W w5) := below_then HB4.out hB9
    have HR5 := Lib.hid (HR4.out.keep hB9)
    clear hB9
    have r6 : w5.cell? ⟨G.mb, 6, none⟩ = some (.slice (some ⟨G.rg, 0, none⟩) s.regs.length s.regs.length) := HR5.out.cell 6
    have vd := HR5.out.reg Hdr.out
    have zd : w5.frozen? ⟨G.rg, d, none⟩ = false := frozen_heap HR5.out.regs d
    go_wp2_with fail
    go_ret
    exact RStep.ok (HST.out.trans ((if_neg HC.out).trans (by rw [HK.out, Int.toNat_natCast, HRV0.out]))) (HR5.out.setReg (k := d) HWV.out) (((HBW.out.mono HN0.out).trans (HB5.out.mono HNW.out)).setCell HR5.out.rg_ _)

theorem rstep_7 (N : Nat) (G : RGeo) (sh : List (ByteArray × Int)) (names : List ByteArray) (inp : List Int) (d : Int) (x : Nat) (y : Nat) (imm : Int) (sym : ByteArray) (w : World) (uv : Value) (n : Int) (s : St) (h : RefAt N G sh w uv n 0 s) (hN : N ≤ w.heap.size) (hx : x < s.regs.length) (hy : y < s.regs.length) (arrs : List (ByteArray × Int)) (ha : ArrsAt w G.aa arrs) (hal : arrs.length = G.na) (hs : ArrsAt w G.sa sh) (hsl : sh.length = G.ns) (j : Nat) (hj : j < G.ns) (hidx : idx sh sym = (j : Int)) (hpos : pos names sym = G.na + j) :
    Calls Try.prog 41 #[.pointer (some ⟨G.mb, 0, none⟩), Ins.val ⟨7, d, ((x : Nat) : Int), ((y : Nat) : Int), imm, sym⟩] w (RStep N G sh n s w (step names inp ⟨7, d, ((x : Nat) : Int), ((y : Nat) : Int), imm, sym⟩ s)) := by
  obtain ⟨W, hW⟩ : ∃ W : World, w.alloc (.cells #[.int .u8 7, .int .i64 d, .int .i64 ((x : Nat) : Int), .int .i64 ((y : Nat) : Int), .int .i64 imm, .string sym] 77) = W := ⟨_, rfl⟩
  have HBW : Hid (Below w.heap.size w W) := by show Below _ _ _; rw [← hW]; exact (Below.refl _ _).alloc (Nat.le_refl _) _
  have HX : Hid (W.heap[w.heap.size]? = some (.cells #[.int .u8 7, .int .i64 d, .int .i64 ((x : Nat) : Int), .int .i64 ((y : Nat) : Int), .int .i64 imm, .string sym] 77)) := by show _ = _; rw [← hW]; exact (MapKept.heap_alloc w _).1
  have HI : Hid (∀ w', Below W.heap.size W w' → ICells w.heap.size ⟨7, d, ((x : Nat) : Int), ((y : Nat) : Int), imm, sym⟩ w') := fun w' hb => ICells.of ((hb.block _ (lt_heap HX.out)).trans HX.out)
  have HR := Lib.hid (h.keep HBW.out)
  have HH := Lib.hid h
  have HNW : Hid (N ≤ W.heap.size) := Nat.le_trans hN HBW.out.size
  have HN0 := Lib.hid hN
  have Hxr := Lib.hid hx
  have x0 : (0 : Int) ≤ (x : Int) := by omega
  have x1 : (x : Int) < (s.regs.length : Int) := by omega
  have wx := HR.out.regw hx
  have x2 := wx.1
  have x3 := wx.2
  have Kx := Lib.hid wx
  clear wx hx
  have Hyr := Lib.hid hy
  have y0 : (0 : Int) ≤ (y : Int) := by omega
  have y1 : (y : Int) < (s.regs.length : Int) := by omega
  have wy := HR.out.regw hy
  have y2 := wy.1
  have y3 := wy.2
  have Ky := Lib.hid wy
  clear wy hy
  clear h hN
  have HA := Lib.hid (ha.below HBW.out)
  have HAL := Lib.hid hal
  have HS := Lib.hid (hs.below HBW.out)
  have HSL := Lib.hid hsl
  have HIDX := Lib.hid hidx
  have HPOS := Lib.hid hpos
  have hjm : G.na + j < s.mem.length := by have := HR.out.nlen; omega
  have HJM := Lib.hid hjm
  have HJ := Lib.hid hj
  have HOW := Lib.hid (HR.out.rows _ hjm)
  have hrl := ownsRow_len HOW.out
  obtain ⟨ra, rc, hrv⟩ := ownsRow_val HOW.out
  have HRV := Lib.hid hrv
  obtain ⟨L, hL⟩ : ∃ L, (s.row (G.na + j)).length = L := ⟨_, rfl⟩
  have HL := Lib.hid hL
  rw [hL] at hrl HRV
  obtain ⟨ia0, hia0⟩ : ∃ k, idx arrs sym = k := ⟨_, rfl⟩
  have HIA := Lib.hid hia0
  have hj0 : (0 : Int) ≤ (j : Int) := by omega
  have hj1 : (j : Int) < (G.ns : Int) := by omega
  have hstep : step names inp ⟨7, d, ((x : Nat) : Int), ((y : Nat) : Int), imm, sym⟩ s = (if s.reg x < 0 ∨ (L : Int) ≤ s.reg x then .error 10 else .ok { s with mem := s.mem.set (G.na + j) ((s.row (G.na + j)).set (s.reg x).toNat (s.reg y)) }) := by
    rw [step_7, HPOS.out, HL.out]
  have HST := Lib.hid hstep
  clear ha hal hs hsl hidx hpos hjm hj hrv hL hia0 hstep
  have QD : Hid (∀ w', Calls Try.prog 31 #[.agg #[.int .u8 7, .int .i64 d, .int .i64 ((x : Nat) : Int), .int .i64 ((y : Nat) : Int), .int .i64 imm, .string sym]] w' fun e w'' => e = .returned (.tuple #[.int .i64 0, .bool false]) ∧ Below w'.heap.size w' w'') := fun w' => rDefines_any ⟨7, d, ((x : Nat) : Int), ((y : Nat) : Int), imm, sym⟩ (by show (0 : Int) ≤ 7; decide) (by show (7 : Int) ≤ 255; decide) _ _ rfl rfl w'
  have QU : Hid (∀ w', Calls Try.prog 32 #[.agg #[.int .u8 7, .int .i64 d, .int .i64 ((x : Nat) : Int), .int .i64 ((y : Nat) : Int), .int .i64 imm, .string sym]] w' fun e w'' => (∃ a c, e = .returned (.slice a 2 c)) ∧ Below w'.heap.size w' w'') := fun w' => rUses_any ⟨7, d, ((x : Nat) : Int), ((y : Nat) : Int), imm, sym⟩ (by show (0 : Int) ≤ 7; decide) (by show (7 : Int) ≤ 255; decide) 2 rfl w'
  obtain ⟨i0, i1, i2, i3, i4, i5⟩ := HI.out W (Below.refl _ _)
  unfold Ins.val
  go_enter Try.func41, Try.ntmps41
  go_wp2_with fail
  clear hW i0 i1 i2 i3 i4 i5
  refine (QU.out _).mono ?_
  rintro e w1 ⟨⟨ua, uc, rfl⟩, hB1⟩
  have HB1 := Lib.hid hB1
  have HR1 := Lib.hid (HR.out.keep hB1)
  clear hB1
  obtain ⟨i0, i1, i2, i3, i4, i5⟩ := HI.out w1 HB1.out
  have r6 : w1.cell? ⟨G.mb, 6, none⟩ = some (.slice (some ⟨G.rg, 0, none⟩) s.regs.length s.regs.length) := HR1.out.cell 6
  have vx := HR1.out.reg Hxr.out
  go_wp2_with fail
  go_quiet (fail)
  generalize hV : World.drewN _ _ = w2
  have HB2 := Lib.hid (below_drawn2 HB1.out hV)
  have HR2 := Lib.hid (HR1.out.keep (self_drawn hV))
  clear hV
  clear i0 i1 i2 i3 i4 i5 r6 vx
  obtain ⟨i0, i1, i2, i3, i4, i5⟩ := HI.out w2 HB2.out
  have r6 : w2.cell? ⟨G.mb, 6, none⟩ = some (.slice (some ⟨G.rg, 0, none⟩) s.regs.length s.regs.length) := HR2.out.cell 6
  have vy := HR2.out.reg Hyr.out
  go_wp2_with fail
  go_quiet (fail)
  generalize hV : World.drewN _ _ = w3
  have HB3 := Lib.hid (below_drawn2 HB2.out hV)
  have HR3 := Lib.hid (HR2.out.keep (self_drawn hV))
  clear hV
  clear i0 i1 i2 i3 i4 i5 r6 vy
  obtain ⟨i0, i1, i2, i3, i4, i5⟩ := HI.out w3 HB3.out
  have r9 : w3.cell? ⟨G.mb, 9, none⟩ = some (.slice G.oa G.na G.oc) := HR3.out.cell 9
  clear i0 i1 i2 i3 i4 i5 r9
  obtain ⟨i0, i1, i2, i3, i4, i5⟩ := HI.out w3 HB3.out
  have r2 : w3.cell? ⟨G.mb, 2, none⟩ = some (.slice G.aa G.na G.ac) := HR3.out.cell 2
  have r9 : w3.cell? ⟨G.mb, 9, none⟩ = some (.slice G.oa G.na G.oc) := HR3.out.cell 9
  have r10 : w3.cell? ⟨G.mb, 10, none⟩ = some (.slice G.pa G.ns G.pc) := HR3.out.cell 10
  have r4 : w3.cell? ⟨G.mb, 4, none⟩ = some (.slice G.sa G.ns G.sc) := HR3.out.cell 4
  have QI : Hid (∀ k, Calls Try.prog 35 #[.slice G.aa G.na G.ac, .string sym] (World.drewN w3 k) fun e w' => e = .returned (.int .i64 ia0) ∧ ∃ q, w' = World.drewN w3 q) := fun k => rIndex_any arrs G.aa G.na G.ac sym ia0 _ (HA.out.below HB3.out) HAL.out HIA.out k
  go_wp2_with fail
  go_quiet (first | (go_at_call 35; with_reducible exact QI.out _))
  generalize hV : World.drewN _ _ = w4
  have HB4 := Lib.hid (below_drawn2 HB3.out hV)
  have HR4 := Lib.hid (HR3.out.keep (self_drawn hV))
  clear hV
  clear i0 i1 i2 i3 i4 i5 r2 r9 r10 r4
  clear QI
  obtain ⟨i0, i1, i2, i3, i4, i5⟩ := HI.out w4 HB4.out
  have r10 : w4.cell? ⟨G.mb, 10, none⟩ = some (.slice G.pa G.ns G.pc) := HR4.out.cell 10
  have r4 : w4.cell? ⟨G.mb, 4, none⟩ = some (.slice G.sa G.ns G.sc) := HR4.out.cell 4
  have QI : Hid (∀ k, Calls Try.prog 35 #[.slice G.sa G.ns G.sc, .string sym] (World.drewN w4 k) fun e w' => e = .returned (.int .i64 (j : Int)) ∧ ∃ q, w' = World.drewN w4 q) := fun k => rIndex_any sh G.sa G.ns G.sc sym (j : Int) _ (HS.out.below HB4.out) HSL.out HIDX.out k
  go_wp2_with fail
  go_quiet (first | (go_at_call 35; with_reducible exact QI.out _))
  generalize hV : World.drewN _ _ = w5
  have HB5 := Lib.hid (below_drawn2 HB4.out hV)
  have HR5 := Lib.hid (HR4.out.keep (self_drawn hV))
  clear hV
  clear i0 i1 i2 i3 i4 i5 r10 r4
  clear QI
  obtain ⟨ob, hob, hoc⟩ := HR5.out.rowO HJ.out
  rw [HRV.out] at hoc
  have HOB := Lib.hid hob
  clear hob
  by_cases hc : s.reg x < 0 ∨ (L : Int) ≤ s.reg x
  · have hc' : s.reg x < 0 ∨ (decide (s.reg x < 0) = false ∧ (L : Int) ≤ s.reg x) := by
      by_cases q : s.reg x < 0
      · exact .inl q
      · exact .inr ⟨by simpa using q, by omega⟩
    have HC := Lib.hid hc
    clear hc
    rw [HOB.out]
    rcases hc' with q | ⟨q, q'⟩
    all_goals
      go_wp2_with fail
      go_ret
      exact RStep.trap (HST.out.trans (if_pos HC.out)) HR5.out ((HBW.out.mono HN0.out).trans (HB5.out.mono HNW.out))
  · have q : decide (s.reg x < 0) = false := by simp; omega
    obtain ⟨k, hk⟩ : ∃ k : Nat, s.reg x = (k : Int) := ⟨(s.reg x).toNat, by omega⟩
    have HK := Lib.hid hk
    have HC := Lib.hid hc
    have hkl : k < L := by omega
    have q' : decide ((L : Int) ≤ (k : Int)) = false := by simp; omega
    have hk0 : (0 : Int) ≤ (k : Int) := by omega
    have hk1 : (k : Int) < (L : Int) := by omega
    have hown := HOW.out
    rw [HL.out, HRV.out] at hown
    obtain ⟨b, rfl⟩ : ∃ b, ra = some ⟨b, 0, none⟩ := ownsRow_some hown (by omega)
    have hrv2 : G.rows.getD (G.na + j) undef = .slice (some ⟨b, 0, none⟩) (s.row (G.na + j)).length rc := by rw [HL.out]; exact HRV.out
    have HRV2 := Lib.hid hrv2
    have rw_ := HR5.out.rowCell HJM.out hrv2 (by rw [HL.out]; exact hkl)
    have rz_ : w5.frozen? ⟨b, k, none⟩ = false := HR5.out.rowFree HJM.out hrv2 k
    have HKL : Hid (k < (s.row (G.na + j)).length) := by show _ < _; rw [HL.out]; exact hkl
    have HWV : Hid (Wd.W ((s.row (G.na + j)).getD k 0)) := HR5.out.wf.mem _ (row_mem HJM.out) _ (getD_mem HKL.out)
    obtain ⟨rv0, hrv0⟩ : ∃ v, (s.row (G.na + j)).getD k 0 = v := ⟨_, rfl⟩
    have HRV0 := Lib.hid hrv0
    rw [hrv0] at rw_ HWV
    rw [hk] at q ⊢
    rw [HOB.out]
    clear hrv0 hown hrv2 hc hk
    obtain ⟨i0, i1, i2, i3, i4, i5⟩ := HI.out w5 HB5.out
    obtain ⟨wS, hS⟩ : ∃ wS : World, w5.setCell ⟨b, k, none⟩ (.int .i32 (s.reg y)) = wS := ⟨_, rfl⟩
    have HRS : Hid (RefAt N G sh wS uv n 0 { s with mem := s.mem.set (G.na + j) ((s.row (G.na + j)).set k (s.reg y)) }) := by show RefAt _ _ _ _ _ _ _ _; rw [← hS]; exact HR5.out.setRow HJM.out HRV2.out HKL.out Ky.out
    have hNb : N ≤ b ∧ b < w.heap.size := by
      have h9 := HH.out.rows _ HJM.out
      rw [HRV2.out] at h9
      exact ownsRow_lt h9 rfl
    have HNB := Lib.hid hNb
    have HZS : Hid (Below N w wS) := by show Below _ _ _; rw [← hS]; exact ((HBW.out.mono HN0.out).trans (HB5.out.mono HNW.out)).setCell HNB.out.1 _
    have HXS : Hid (ICells w.heap.size ⟨7, d, ((x : Nat) : Int), ((y : Nat) : Int), imm, sym⟩ wS) := by show ICells _ _ _; rw [← hS]; exact (HI.out _ HB5.out).other (by have := HNB.out; omega)
    clear hNb
    obtain ⟨e0, e1, e2, e3, e4, e5⟩ := HXS.out
    simp only at e0 e1 e2 e3 e4 e5
    go_wp2_with fail
    clear hS e0 e1 e2 e3 e4 e5
    clear i0 i1 i2 i3 i4 i5 rw_ rz_ hoc
    refine (QD.out _).mono ?_
    rintro e wz ⟨rfl, hB9⟩
    have HRZ := Lib.hid (HRS.out.keep hB9)
    have HZZ := Lib.hid (HZS.out.trans (hB9.mono (Nat.le_trans HN0.out HZS.out.size)))
    clear hB9
    go_wp2_with fail
    go_ret
    exact RStep.ok (HST.out.trans ((if_neg HC.out).trans (by rw [HK.out, Int.toNat_natCast]))) HRZ.out HZZ.out

end Go.Proofs.Ytjdfcpjlmfaaaaa

/-
  Contract: step (package ontimeref17: machine), operation by operation.
-/

namespace Go.Proofs.Ytjdfcpjlmfaaaaa
set_option linter.unusedVariables false
set_option linter.unusedSimpArgs false
open Go.RowKit
set_option maxRecDepth 100000
set_option maxHeartbeats 8000000
theorem rstep_9 (N : Nat) (G : RGeo) (sh : List (ByteArray × Int)) (names : List ByteArray) (inp : List Int) (d : Nat) (x : Int) (y : Int) (imm : Int) (sym : ByteArray) (w : World) (uv : Value) (n : Int) (s : St) (h : RefAt N G sh w uv n 0 s) (hN : N ≤ w.heap.size) (hd : d < s.regs.length) (hin : WordsAt w G.ia inp) (hil : inp.length = G.ni) (hrd : s.read < 8000000000) :
    Calls Try.prog 41 #[.pointer (some ⟨G.mb, 0, none⟩), Ins.val ⟨9, ((d : Nat) : Int), x, y, imm, sym⟩] w (RStep N G sh n s w (step names inp ⟨9, ((d : Nat) : Int), x, y, imm, sym⟩ s)) := by
  obtain ⟨W, hW⟩ : ∃ W : World, w.alloc (.cells #[.int .u8 9, .int .i64 ((d : Nat) : Int), .int .i64 x, .int .i64 y, .int .i64 imm, .string sym] 77) = W := ⟨_, rfl⟩
  have HBW : Hid (Below w.heap.size w W) := by show Below _ _ _; rw [← hW]; exact (Below.refl _ _).alloc (Nat.le_refl _) _
  have HX : Hid (W.heap[w.heap.size]? = some (.cells #[.int .u8 9, .int .i64 ((d : Nat) : Int), .int .i64 x, .int .i64 y, .int .i64 imm, .string sym] 77)) := by show _ = _; rw [← hW]; exact (MapKept.heap_alloc w _).1
  have HI : Hid (∀ w', Below W.heap.size W w' → ICells w.heap.size ⟨9, ((d : Nat) : Int), x, y, imm, sym⟩ w') := fun w' hb => ICells.of ((hb.block _ (lt_heap HX.out)).trans HX.out)
  have HR := Lib.hid (h.keep HBW.out)
  have HH := Lib.hid h
  have HNW : Hid (N ≤ W.heap.size) := Nat.le_trans hN HBW.out.size
  have HN0 := Lib.hid hN
  have Hdr := Lib.hid hd
  have d0 : (0 : Int) ≤ (d : Int) := by omega
  have d1 : (d : Int) < (s.regs.length : Int) := by omega
  have wd := HR.out.regw hd
  have d2 := wd.1
  have d3 := wd.2
  have Kd := Lib.hid wd
  clear wd hd
  clear h hN
  have HIN := Lib.hid (hin.below HBW.out)
  have HIL := Lib.hid hil
  have hif := hin.fits
  rw [hil] at hif
  have hr0 : (0 : Int) ≤ (s.read : Int) := by omega
  have hr1 : (s.read : Int) + 1 ≤ 9223372036854775807 := by omega
  clear hin hil
  have QD : Hid (∀ w', Calls Try.prog 31 #[.agg #[.int .u8 9, .int .i64 ((d : Nat) : Int), .int .i64 x, .int .i64 y, .int .i64 imm, .string sym]] w' fun e w'' => e = .returned (.tuple #[.int .i64 ((d : Nat) : Int), .bool true]) ∧ Below w'.heap.size w' w'') := fun w' => rDefines_any ⟨9, ((d : Nat) : Int), x, y, imm, sym⟩ (by show (0 : Int) ≤ 9; decide) (by show (9 : Int) ≤ 255; decide) _ _ rfl rfl w'
  have QU : Hid (∀ w', Calls Try.prog 32 #[.agg #[.int .u8 9, .int .i64 ((d : Nat) : Int), .int .i64 x, .int .i64 y, .int .i64 imm, .string sym]] w' fun e w'' => (∃ a c, e = .returned (.slice a 0 c)) ∧ Below w'.heap.size w' w'') := fun w' => rUses_any ⟨9, ((d : Nat) : Int), x, y, imm, sym⟩ (by show (0 : Int) ≤ 9; decide) (by show (9 : Int) ≤ 255; decide) 0 rfl w'
  obtain ⟨i0, i1, i2, i3, i4, i5⟩ := HI.out W (Below.refl _ _)
  unfold Ins.val
  go_enter Try.func41, Try.ntmps41
  go_wp2_with fail
  clear hW i0 i1 i2 i3 i4 i5
  refine (QU.out _).mono ?_
  rintro e w1 ⟨⟨ua, uc, rfl⟩, hB1⟩
  have HB1 := Lib.hid hB1
  have HR1 := Lib.hid (HR.out.keep hB1)
  clear hB1
  obtain ⟨i0, i1, i2, i3, i4, i5⟩ := HI.out w1 HB1.out
  have r5 : w1.cell? ⟨G.mb, 5, none⟩ = some (.slice G.ia G.ni G.ic) := HR1.out.cell 5
  have r12 : w1.cell? ⟨G.mb, 12, none⟩ = some (.int .i64 s.read) := HR1.out.cell 12
  go_wp2_with fail
  by_cases hlt : s.read < G.ni
  · have hlt' : (s.read : Int) < (G.ni : Int) := by omega
    rcases HIN.out.at_ with h0 | ⟨ib, io, hia, hk⟩
    · have := HIL.out; omega
    obtain ⟨xv, hx⟩ : ∃ v, inp[s.read]? = some v := ⟨_, List.getElem?_eq_getElem (by rw [HIL.out]; exact hlt)⟩
    have xw := HIN.out.words xv (List.mem_of_getElem? hx)
    have HXW := Lib.hid xw
    have HXV : Hid (inp.getD s.read 0 = xv) := by show _ = _; simp [hx]
    have HCI := Lib.hid (hk s.read xv hx)
    have HIA := Lib.hid hia
    clear hk hx xw hia
    go_quiet (fail)
    generalize hV : World.drewN _ _ = w2
    have HB2 := Lib.hid (below_drawn2 HB1.out hV)
    have HR2 := Lib.hid (HR1.out.keep (self_drawn hV))
    clear hV
    clear i0 i1 i2 i3 i4 i5 r5 r12
    obtain ⟨i0, i1, i2, i3, i4, i5⟩ := HI.out w2 HB2.out
    have r5 : w2.cell? ⟨G.mb, 5, none⟩ = some (.slice G.ia G.ni G.ic) := HR2.out.cell 5
    have r12 : w2.cell? ⟨G.mb, 12, none⟩ = some (.int .i64 s.read) := HR2.out.cell 12
    rw [HIA.out] at r5
    have ci := cell_below HB2.out HCI.out
    go_wp2_with fail
    go_quiet (fail)
    generalize hV : World.drewN _ _ = w3
    have HB3 := Lib.hid (below_drawn2 HB2.out hV)
    have HR3 := Lib.hid (HR2.out.keep (self_drawn hV))
    clear hV
    clear i0 i1 i2 i3 i4 i5 r5 r12 ci
    obtain ⟨i0, i1, i2, i3, i4, i5⟩ := HI.out w3 HB3.out
    have r12 : w3.cell? ⟨G.mb, 12, none⟩ = some (.int .i64 s.read) := HR3.out.cell 12
    have z12 : w3.frozen? ⟨G.mb, 12, none⟩ = false := HR3.out.free 12
    obtain ⟨wS, hS⟩ : ∃ wS : World, w3.setCell ⟨G.mb, 12, none⟩ (.int .i64 ((s.read : Int) + 1)) = wS := ⟨_, rfl⟩
    have HRS : Hid (RefAt N G sh wS uv n 0 { s with read := s.read + 1 }) := by show RefAt _ _ _ _ _ _ _ _; rw [← hS, show ((s.read : Int) + 1) = ((s.read + 1 : Nat) : Int) by omega]; exact HR3.out.setRead (s.read + 1)
    have HZS : Hid (Below N w wS) := by show Below _ _ _; rw [← hS]; exact ((HBW.out.mono HN0.out).trans (HB3.out.mono HNW.out)).setCell HR3.out.mb_ _
    have HXS : Hid (ICells w.heap.size ⟨9, ((d : Nat) : Int), x, y, imm, sym⟩ wS) := by show ICells _ _ _; rw [← hS]; exact (HI.out _ HB3.out).other (fun e => absurd (lt_heap HH.out.run) (by omega))
    obtain ⟨e0, e1, e2, e3, e4, e5⟩ := HXS.out
    simp only at e0 e1 e2 e3 e4 e5
    go_wp2_with fail
    clear hS e0 e1 e2 e3 e4 e5
    clear i0 i1 i2 i3 i4 i5 r12 z12
    refine (QD.out _).mono ?_
    rintro e wz ⟨rfl, hB9⟩
    have HRZ := Lib.hid (HRS.out.keep hB9)
    have HZZ := Lib.hid (HZS.out.trans (hB9.mono (Nat.le_trans HN0.out HZS.out.size)))
    clear hB9
    have q6 : wz.cell? ⟨G.mb, 6, none⟩ = some (.slice (some ⟨G.rg, 0, none⟩) s.regs.length s.regs.length) := HRZ.out.cell 6
    have qd : wz.cell? ⟨G.rg, d, none⟩ = some (.int .i32 (s.reg d)) := HRZ.out.reg Hdr.out
    have qz : wz.frozen? ⟨G.rg, d, none⟩ = false := frozen_heap HRZ.out.regs d
    go_wp2_with fail
    go_ret
    exact RStep.ok (by rw [step_9, HXV.out]; rfl) (HRZ.out.setReg (k := d) HXW.out) (HZZ.out.setCell HRZ.out.rg_ _)
  · have hlt' : decide ((s.read : Int) < (G.ni : Int)) = false := by simp; omega
    have HXV : Hid (inp.getD s.read 0 = 0) := by show _ = _; simp [List.getElem?_eq_none (show inp.length ≤ s.read by rw [HIL.out]; omega)]
    go_quiet (fail)
    generalize hV : World.drewN _ _ = w2
    have HB2 := Lib.hid (below_drawn2 HB1.out hV)
    have HR2 := Lib.hid (HR1.out.keep (self_drawn hV))
    clear hV
    clear i0 i1 i2 i3 i4 i5 r5 r12
    obtain ⟨i0, i1, i2, i3, i4, i5⟩ := HI.out w2 HB2.out
    have r12 : w2.cell? ⟨G.mb, 12, none⟩ = some (.int .i64 s.read) := HR2.out.cell 12
    have z12 : w2.frozen? ⟨G.mb, 12, none⟩ = false := HR2.out.free 12
    obtain ⟨wS, hS⟩ : ∃ wS : World, w2.setCell ⟨G.mb, 12, none⟩ (.int .i64 ((s.read : Int) + 1)) = wS := ⟨_, rfl⟩
    have HRS : Hid (RefAt N G sh wS uv n 0 { s with read := s.read + 1 }) := by show RefAt _ _ _ _ _ _ _ _; rw [← hS, show ((s.read : Int) + 1) = ((s.read + 1 : Nat) : Int) by omega]; exact HR2.out.setRead (s.read + 1)
    have HZS : Hid (Below N w wS) := by show Below _ _ _; rw [← hS]; exact ((HBW.out.mono HN0.out).trans (HB2.out.mono HNW.out)).setCell HR2.out.mb_ _
    have HXS : Hid (ICells w.heap.size ⟨9, ((d : Nat) : Int), x, y, imm, sym⟩ wS) := by show ICells _ _ _; rw [← hS]; exact (HI.out _ HB2.out).other (fun e => absurd (lt_heap HH.out.run) (by omega))
    obtain ⟨e0, e1, e2, e3, e4, e5⟩ := HXS.out
    simp only at e0 e1 e2 e3 e4 e5
    go_wp2_with fail
    clear hS e0 e1 e2 e3 e4 e5
    clear i0 i1 i2 i3 i4 i5 r12 z12
    refine (QD.out _).mono ?_
    rintro e wz ⟨rfl, hB9⟩
    have HRZ := Lib.hid (HRS.out.keep hB9)
    have HZZ := Lib.hid (HZS.out.trans (hB9.mono (Nat.le_trans HN0.out HZS.out.size)))
    clear hB9
    have q6 : wz.cell? ⟨G.mb, 6, none⟩ = some (.slice (some ⟨G.rg, 0, none⟩) s.regs.length s.regs.length) := HRZ.out.cell 6
    have qd : wz.cell? ⟨G.rg, d, none⟩ = some (.int .i32 (s.reg d)) := HRZ.out.reg Hdr.out
    have qz : wz.frozen? ⟨G.rg, d, none⟩ = false := frozen_heap HRZ.out.regs d
    go_wp2_with fail
    go_ret
    exact RStep.ok (by rw [step_9, HXV.out]; rfl) (HRZ.out.setReg (k := d) (show Wd.W 0 from ⟨by omega, by omega⟩)) (HZZ.out.setCell HRZ.out.rg_ _)

theorem rstep_11t (N : Nat) (G : RGeo) (sh : List (ByteArray × Int)) (names : List ByteArray) (inp : List Int) (d : Int) (x : Int) (y : Int) (imm : Int) (sym : ByteArray) (w : World) (uv : Value) (n : Int) (s : St) (h : RefAt N G sh w uv n 0 s) (hN : N ≤ w.heap.size)  (hl : s.locked = true) (hlk : 0 ≤ idx sh s.held) :
    Calls Try.prog 41 #[.pointer (some ⟨G.mb, 0, none⟩), Ins.val ⟨11, d, x, y, imm, sym⟩] w (RStep N G sh n s w (step names inp ⟨11, d, x, y, imm, sym⟩ s)) := by
  obtain ⟨W, hW⟩ : ∃ W : World, w.alloc (.cells #[.int .u8 11, .int .i64 d, .int .i64 x, .int .i64 y, .int .i64 imm, .string sym] 77) = W := ⟨_, rfl⟩
  have HBW : Hid (Below w.heap.size w W) := by show Below _ _ _; rw [← hW]; exact (Below.refl _ _).alloc (Nat.le_refl _) _
  have HX : Hid (W.heap[w.heap.size]? = some (.cells #[.int .u8 11, .int .i64 d, .int .i64 x, .int .i64 y, .int .i64 imm, .string sym] 77)) := by show _ = _; rw [← hW]; exact (MapKept.heap_alloc w _).1
  have HI : Hid (∀ w', Below W.heap.size W w' → ICells w.heap.size ⟨11, d, x, y, imm, sym⟩ w') := fun w' hb => ICells.of ((hb.block _ (lt_heap HX.out)).trans HX.out)
  have HR := Lib.hid (h.keep HBW.out)
  have HH := Lib.hid h
  have HNW : Hid (N ≤ W.heap.size) := Nat.le_trans hN HBW.out.size
  have HN0 := Lib.hid hN
  clear h hN
  have hhr : heldR sh s = idx sh s.held := by unfold heldR; rw [hl]; rfl
  have HL := Lib.hid hl
  obtain ⟨hv, hhv⟩ : ∃ hv, idx sh s.held = hv := ⟨_, rfl⟩
  rw [hhv] at hhr hlk
  have HHR := Lib.hid hhr
  clear hl hhr hhv
  have QD : Hid (∀ w', Calls Try.prog 31 #[.agg #[.int .u8 11, .int .i64 d, .int .i64 x, .int .i64 y, .int .i64 imm, .string sym]] w' fun e w'' => e = .returned (.tuple #[.int .i64 0, .bool false]) ∧ Below w'.heap.size w' w'') := fun w' => rDefines_any ⟨11, d, x, y, imm, sym⟩ (by show (0 : Int) ≤ 11; decide) (by show (11 : Int) ≤ 255; decide) _ _ rfl rfl w'
  have QU : Hid (∀ w', Calls Try.prog 32 #[.agg #[.int .u8 11, .int .i64 d, .int .i64 x, .int .i64 y, .int .i64 imm, .string sym]] w' fun e w'' => (∃ a c, e = .returned (.slice a 0 c)) ∧ Below w'.heap.size w' w'') := fun w' => rUses_any ⟨11, d, x, y, imm, sym⟩ (by show (0 : Int) ≤ 11; decide) (by show (11 : Int) ≤ 255; decide) 0 rfl w'
  obtain ⟨i0, i1, i2, i3, i4, i5⟩ := HI.out W (Below.refl _ _)
  unfold Ins.val
  go_enter Try.func41, Try.ntmps41
  go_wp2_with fail
  clear hW i0 i1 i2 i3 i4 i5
  refine (QU.out _).mono ?_
  rintro e w1 ⟨⟨ua, uc, rfl⟩, hB1⟩
  have HB1 := Lib.hid hB1
  have HR1 := Lib.hid (HR.out.keep hB1)
  clear hB1
  obtain ⟨i0, i1, i2, i3, i4, i5⟩ := HI.out w1 HB1.out
  have r8 : w1.cell? ⟨G.mb, 8, none⟩ = some (.int .i64 (heldR sh s)) := HR1.out.cell 8
  rw [HHR.out] at r8
  go_wp2_with fail
  go_ret
  exact RStep.trap (by rw [step_11, if_pos HL.out]) HR1.out ((HBW.out.mono HN0.out).trans (HB1.out.mono HNW.out))

end Go.Proofs.Ytjdfcpjlmfaaaaa

/-
  Contract: step (package ontimeref17: machine), operation by operation.
-/
namespace Go.Proofs.Ytjdfcpjlmfaaaaa
set_option linter.unusedVariables false
set_option linter.unusedSimpArgs false
open Go.RowKit
set_option maxRecDepth 100000
set_option maxHeartbeats 8000000
theorem rstep_11f (N : Nat) (G : RGeo) (sh : List (ByteArray × Int)) (names : List ByteArray) (inp : List Int) (d : Int) (x : Int) (y : Int) (imm : Int) (sym : ByteArray) (w : World) (uv : Value) (n : Int) (s : St) (h : RefAt N G sh w uv n 0 s) (hN : N ≤ w.heap.size)  (hl : s.locked = false) (hsz : sym.size ≤ 9223372036854775807) (hs : ArrsAt w G.sa sh) (hsl : sh.length = G.ns) (hm : sym ∈ sh.map (·.1)) :
    Calls Try.prog 41 #[.pointer (some ⟨G.mb, 0, none⟩), Ins.val ⟨11, d, x, y, imm, sym⟩] w (RStep N G sh n s w (step names inp ⟨11, d, x, y, imm, sym⟩ s)) := by
  obtain ⟨W, hW⟩ : ∃ W : World, w.alloc (.cells #[.int .u8 11, .int .i64 d, .int .i64 x, .int .i64 y, .int .i64 imm, .string sym] 77) = W := ⟨_, rfl⟩
  have HBW : Hid (Below w.heap.size w W) := by show Below _ _ _; rw [← hW]; exact (Below.refl _ _).alloc (Nat.le_refl _) _
  have HX : Hid (W.heap[w.heap.size]? = some (.cells #[.int .u8 11, .int .i64 d, .int .i64 x, .int .i64 y, .int .i64 imm, .string sym] 77)) := by show _ = _; rw [← hW]; exact (MapKept.heap_alloc w _).1
  have HI : Hid (∀ w', Below W.heap.size W w' → ICells w.heap.size ⟨11, d, x, y, imm, sym⟩ w') := fun w' hb => ICells.of ((hb.block _ (lt_heap HX.out)).trans HX.out)
  have HR := Lib.hid (h.keep HBW.out)
  have HH := Lib.hid h
  have HNW : Hid (N ≤ W.heap.size) := Nat.le_trans hN HBW.out.size
  have HN0 := Lib.hid hN
  clear h hN
  have HS := Lib.hid (hs.below HBW.out)
  have HSL := Lib.hid hsl
  have HM := Lib.hid hm
  have HSZ := Lib.hid hsz
  obtain ⟨k, hk⟩ : ∃ k : Nat, idx sh sym = (k : Int) := ⟨(idx sh sym).toNat, by have := idx_pos.2 hm; omega⟩
  have HK := Lib.hid hk
  clear hs hsl hm hsz hk
  have hhr : heldR sh s = -1 := by unfold heldR; rw [hl]; rfl
  have HL := Lib.hid hl
  have HHR := Lib.hid hhr
  clear hl hhr
  have QD : Hid (∀ w', Calls Try.prog 31 #[.agg #[.int .u8 11, .int .i64 d, .int .i64 x, .int .i64 y, .int .i64 imm, .string sym]] w' fun e w'' => e = .returned (.tuple #[.int .i64 0, .bool false]) ∧ Below w'.heap.size w' w'') := fun w' => rDefines_any ⟨11, d, x, y, imm, sym⟩ (by show (0 : Int) ≤ 11; decide) (by show (11 : Int) ≤ 255; decide) _ _ rfl rfl w'
  have QU : Hid (∀ w', Calls Try.prog 32 #[.agg #[.int .u8 11, .int .i64 d, .int .i64 x, .int .i64 y, .int .i64 imm, .string sym]] w' fun e w'' => (∃ a c, e = .returned (.slice a 0 c)) ∧ Below w'.heap.size w' w'') := fun w' => rUses_any ⟨11, d, x, y, imm, sym⟩ (by show (0 : Int) ≤ 11; decide) (by show (11 : Int) ≤ 255; decide) 0 rfl w'
  obtain ⟨i0, i1, i2, i3, i4, i5⟩ := HI.out W (Below.refl _ _)
  unfold Ins.val
  go_enter Try.func41, Try.ntmps41
  go_wp2_with fail
  clear hW i0 i1 i2 i3 i4 i5
  refine (QU.out _).mono ?_
  rintro e w1 ⟨⟨ua, uc, rfl⟩, hB1⟩
  have HB1 := Lib.hid hB1
  have HR1 := Lib.hid (HR.out.keep hB1)
  clear hB1
  obtain ⟨i0, i1, i2, i3, i4, i5⟩ := HI.out w1 HB1.out
  have r4 : w1.cell? ⟨G.mb, 4, none⟩ = some (.slice G.sa G.ns G.sc) := HR1.out.cell 4
  have r8 : w1.cell? ⟨G.mb, 8, none⟩ = some (.int .i64 (heldR sh s)) := HR1.out.cell 8
  rw [HHR.out] at r8
  go_wp2_with fail
  have HSD : Hid (∀ w', Below w1.heap.size w1 w' → w'.cell? ⟨w.heap.size, 5, none⟩ = some (.string sym) ∧ w'.cell? ⟨G.mb, 4, none⟩ = some (.slice G.sa G.ns G.sc)) := fun w' hb => ⟨(HI.out _ (below_then HB1.out hb)).2.2.2.2.2, (HR1.out.keep hb).cell 4⟩
  refine wp_region_held_drew (S := fun w' => w'.cell? ⟨w.heap.size, 5, none⟩ = some (.string sym) ∧ w'.cell? ⟨G.mb, 4, none⟩ = some (.slice G.sa G.ns G.sc)) (by kernel_rfl) (HSD.out _ (Below.refl _ _).drew) (fun hHeld => ?_)
  have HBD : Hid (Below w1.heap.size w1 w1.drew) := (Below.refl _ _).drew
  generalize hwd : w1.drew = D at hHeld HBD ⊢
  clear hwd
  refine wpAnyH_take (i := 0) (v := .pointer (some ⟨G.mb, 0, none⟩)) rfl (by kernel_rfl) (by kernel_rfl) (by kernel_rfl) (fun _ _ _ h => h) (Or.inl ⟨by rfl, ?_⟩) (by assumption) ?_
  · intro w' hSw; go_simp
  (try simp only [Act.put, List.getElem_toArray, List.getElem_cons_zero, List.setIfInBounds_toArray, List.set_cons_zero, List.set_cons_succ])
  refine wpAnyH_take (i := 1) (v := .pointer (some ⟨G.mb, 0, none⟩)) rfl (by kernel_rfl) (by kernel_rfl) (by kernel_rfl) (fun _ _ _ h => h) (Or.inl ⟨by rfl, ?_⟩) (by assumption) ?_
  · intro w' hSw; go_simp
  (try simp only [Act.put, List.getElem_toArray, List.getElem_cons_zero, List.getElem_cons_succ, List.setIfInBounds_toArray, List.set_cons_zero, List.set_cons_succ])
  refine wpAnyH_take (i := 2) (v := .pointer (some ⟨G.mb, 0, none⟩)) rfl (by kernel_rfl) (by kernel_rfl) (by kernel_rfl) (fun _ _ _ h => h) (Or.inl ⟨by rfl, ?_⟩) (by assumption) ?_
  · intro w' hSw; go_simp
  (try simp only [Act.put, List.getElem_toArray, List.getElem_cons_zero, List.getElem_cons_succ, List.setIfInBounds_toArray, List.set_cons_zero, List.set_cons_succ])
  refine wpAnyH_take (i := 3) (v := .pointer (some ⟨G.mb, 4, none⟩)) rfl (by kernel_rfl) (by kernel_rfl) (by kernel_rfl) (fun _ _ _ h => h) (Or.inl ⟨by rfl, ?_⟩) (by assumption) ?_
  · intro w' hSw; go_simp
  (try simp only [Act.put, List.getElem_toArray, List.getElem_cons_zero, List.getElem_cons_succ, List.setIfInBounds_toArray, List.set_cons_zero, List.set_cons_succ])
  refine wpAnyH_take (i := 4) (v := .slice G.sa G.ns G.sc) rfl (by kernel_rfl) (by kernel_rfl) (by kernel_rfl) (fun _ _ _ h => h) (Or.inl ⟨by rfl, ?_⟩) (by assumption) ?_
  · intro w' hSw; obtain ⟨s0, s1⟩ := hSw; go_simp
  (try simp only [Act.put, List.getElem_toArray, List.getElem_cons_zero, List.getElem_cons_succ, List.setIfInBounds_toArray, List.set_cons_zero, List.set_cons_succ])
  refine wpAnyH_take (i := 5) (v := .pointer (some ⟨w.heap.size, 5, none⟩)) rfl (by kernel_rfl) (by kernel_rfl) (by kernel_rfl) (fun _ _ _ h => h) (Or.inl ⟨by rfl, ?_⟩) (by assumption) ?_
  · intro w' hSw; go_simp
  (try simp only [Act.put, List.getElem_toArray, List.getElem_cons_zero, List.getElem_cons_succ, List.setIfInBounds_toArray, List.set_cons_zero, List.set_cons_succ])
  refine wpAnyH_take (i := 6) (v := .string sym) rfl (by kernel_rfl) (by kernel_rfl) (by kernel_rfl) (fun _ _ _ h => h) (Or.inl ⟨by rfl, ?_⟩) (by assumption) ?_
  · intro w' hSw; obtain ⟨s0, s1⟩ := hSw; go_simp
  (try simp only [Act.put, List.getElem_toArray, List.getElem_cons_zero, List.getElem_cons_succ, List.setIfInBounds_toArray, List.set_cons_zero, List.set_cons_succ])
  refine wpAnyH_ready (rs := [7]) (by kernel_rfl) (by simp) (AllReadyH.cons rfl (fun K hK => ?_) AllReadyH.nil)
  go_simp
  have h9 := rIndex_any sh G.sa G.ns G.sc sym (k : Int) D ((HS.out.below HB1.out).below HBD.out) HSL.out HK.out 0
  refine h9.mono ?_
  rintro e D1 ⟨rfl, q, hq⟩
  have HBD1 : Hid (Below w1.heap.size w1 D1) := below_then HBD.out (self_drawn hq.symm)
  clear h9 hq
  refine hK.out _ _ (HSD.out _ HBD1.out) (fun hHeld => ?_)
  clear hK K
  rename_i hOld
  clear hOld
  (try simp only [Act.put, List.getElem_toArray, List.getElem_cons_zero, List.getElem_cons_succ, List.setIfInBounds_toArray, List.set_cons_zero, List.set_cons_succ])
  refine wpAnyH_take (i := 8) (v := .pointer (some ⟨G.mb, 0, none⟩)) rfl (by kernel_rfl) (by kernel_rfl) (by kernel_rfl) (fun _ _ _ h => h) (Or.inl ⟨by rfl, ?_⟩) (by assumption) ?_
  · intro w' hSw; go_simp
  (try simp only [Act.put, List.getElem_toArray, List.getElem_cons_zero, List.getElem_cons_succ, List.setIfInBounds_toArray, List.set_cons_zero, List.set_cons_succ])
  refine wpAnyH_take (i := 9) (v := .pointer (some ⟨G.mb, 8, none⟩)) rfl (by kernel_rfl) (by kernel_rfl) (by kernel_rfl) (fun _ _ _ h => h) (Or.inl ⟨by rfl, ?_⟩) (by assumption) ?_
  · intro w' hSw; go_simp
  (try simp only [Act.put, List.getElem_toArray, List.getElem_cons_zero, List.getElem_cons_succ, List.setIfInBounds_toArray, List.set_cons_zero, List.set_cons_succ])
  have HRD := Lib.hid (HR1.out.keep HBD1.out)
  have u8 : D1.cell? ⟨G.mb, 8, none⟩ = some (.int .i64 (-1)) := by rw [← HHR.out]; exact HRD.out.cell 8
  have z8 : D1.frozen? ⟨G.mb, 8, none⟩ = false := HRD.out.free 8
  refine wpAnyH_ready (rs := [10]) (by kernel_rfl) (by simp) (AllReadyH.cons rfl (fun K hK => ?_) AllReadyH.nil)
  go_simp
  generalize hS : World.setCell _ _ _ = wS
  have HRS : Hid (RefAt N G sh wS uv n 0 { s with locked := true, held := sym }) := by show RefAt _ _ _ _ _ _ _ _; rw [← hS, ← HK.out]; exact HRD.out.lock HSZ.out HM.out
  have HZS : Hid (Below N w wS) := by show Below _ _ _; rw [← hS]; exact ((HBW.out.mono HN0.out).trans ((below_then HB1.out HBD1.out).mono HNW.out)).setCell HRD.out.mb_ _
  have HXS : Hid (ICells w.heap.size ⟨11, d, x, y, imm, sym⟩ wS) := by show ICells _ _ _; rw [← hS]; exact (HI.out _ (below_then HB1.out HBD1.out)).other (fun e => absurd (lt_heap HH.out.run) (by omega))
  have HXC : Hid (wS.cell? ⟨w.heap.size, 5, none⟩ = some (.string sym) ∧ wS.cell? ⟨G.mb, 4, none⟩ = some (.slice G.sa G.ns G.sc)) := ⟨HXS.out.2.2.2.2.2, HRS.out.cell 4⟩
  clear hS u8 z8 r4 r8 i0 i1 i2 i3 i4 i5
  refine hK.out _ _ (HXC.out) (fun hHeld => ?_)
  clear hK K
  rename_i hOld
  clear hOld
  (try simp only [Act.put, List.getElem_toArray, List.getElem_cons_zero, List.getElem_cons_succ, List.setIfInBounds_toArray, List.set_cons_zero, List.set_cons_succ])
  refine wpAnyH_done (by kernel_rfl) ?_ _
  obtain ⟨e0, e1, e2, e3, e4, e5⟩ := HXS.out
  simp only at e0 e1 e2 e3 e4 e5
  go_wp2_with fail
  clear e0 e1 e2 e3 e4 e5
  refine (QD.out _).mono ?_
  rintro e wz ⟨rfl, hB9⟩
  have HRZ := Lib.hid (HRS.out.keep hB9)
  have HZZ := Lib.hid (HZS.out.trans (hB9.mono (Nat.le_trans HN0.out HZS.out.size)))
  clear hB9
  go_wp2_with fail
  go_ret
  exact RStep.ok (by rw [step_11, if_neg (by rw [HL.out]; simp)]) HRZ.out HZZ.out

theorem rstep_12 (N : Nat) (G : RGeo) (sh : List (ByteArray × Int)) (names : List ByteArray) (inp : List Int) (d : Int) (x : Int) (y : Int) (imm : Int) (sym : ByteArray) (w : World) (uv : Value) (n : Int) (s : St) (h : RefAt N G sh w uv n 0 s) (hN : N ≤ w.heap.size)  (hsz : sym.size ≤ 9223372036854775807) (hs : ArrsAt w G.sa sh) (hsl : sh.length = G.ns) (hm : sym ∈ sh.map (·.1)) :
    Calls Try.prog 41 #[.pointer (some ⟨G.mb, 0, none⟩), Ins.val ⟨12, d, x, y, imm, sym⟩] w (RStep N G sh n s w (step names inp ⟨12, d, x, y, imm, sym⟩ s)) := by
  obtain ⟨W, hW⟩ : ∃ W : World, w.alloc (.cells #[.int .u8 12, .int .i64 d, .int .i64 x, .int .i64 y, .int .i64 imm, .string sym] 77) = W := ⟨_, rfl⟩
  have HBW : Hid (Below w.heap.size w W) := by show Below _ _ _; rw [← hW]; exact (Below.refl _ _).alloc (Nat.le_refl _) _
  have HX : Hid (W.heap[w.heap.size]? = some (.cells #[.int .u8 12, .int .i64 d, .int .i64 x, .int .i64 y, .int .i64 imm, .string sym] 77)) := by show _ = _; rw [← hW]; exact (MapKept.heap_alloc w _).1
  have HI : Hid (∀ w', Below W.heap.size W w' → ICells w.heap.size ⟨12, d, x, y, imm, sym⟩ w') := fun w' hb => ICells.of ((hb.block _ (lt_heap HX.out)).trans HX.out)
  have HR := Lib.hid (h.keep HBW.out)
  have HH := Lib.hid h
  have HNW : Hid (N ≤ W.heap.size) := Nat.le_trans hN HBW.out.size
  have HN0 := Lib.hid hN
  clear h hN
  have HS := Lib.hid (hs.below HBW.out)
  have HSL := Lib.hid hsl
  have HM := Lib.hid hm
  have HSZ := Lib.hid hsz
  obtain ⟨k, hk⟩ : ∃ k : Nat, idx sh sym = (k : Int) := ⟨(idx sh sym).toNat, by have := idx_pos.2 hm; omega⟩
  have HK := Lib.hid hk
  clear hs hsl hm hsz hk
  obtain ⟨hv, hhv⟩ : ∃ hv, heldR sh s = hv := ⟨_, rfl⟩
  have HHV := Lib.hid hhv
  have HEQ : Hid (hv = (k : Int) ↔ s.locked = true ∧ s.held = sym) := by
    show _ ↔ _
    rw [← HHV.out, ← HK.out]
    unfold heldR
    cases hl : s.locked with
    | false =>
      simp only [cond_false, Bool.false_eq_true, false_and, iff_false]
      have := HK.out
      omega
    | true =>
      simp only [cond_true, true_and]
      have hmem := HH.out.lk hl
      constructor
      · intro e
        rw [idx_in hmem, idx_in HM.out] at e
        have e : pos (sh.map (·.1)) s.held = pos (sh.map (·.1)) sym := by omega
        have e1 := pos_get hmem
        have e2 := pos_get HM.out
        rw [e, e2] at e1
        exact (Option.some.inj e1).symm
      · intro e
        rw [e]
  clear hhv
  have QD : Hid (∀ w', Calls Try.prog 31 #[.agg #[.int .u8 12, .int .i64 d, .int .i64 x, .int .i64 y, .int .i64 imm, .string sym]] w' fun e w'' => e = .returned (.tuple #[.int .i64 0, .bool false]) ∧ Below w'.heap.size w' w'') := fun w' => rDefines_any ⟨12, d, x, y, imm, sym⟩ (by show (0 : Int) ≤ 12; decide) (by show (12 : Int) ≤ 255; decide) _ _ rfl rfl w'
  have QU : Hid (∀ w', Calls Try.prog 32 #[.agg #[.int .u8 12, .int .i64 d, .int .i64 x, .int .i64 y, .int .i64 imm, .string sym]] w' fun e w'' => (∃ a c, e = .returned (.slice a 0 c)) ∧ Below w'.heap.size w' w'') := fun w' => rUses_any ⟨12, d, x, y, imm, sym⟩ (by show (0 : Int) ≤ 12; decide) (by show (12 : Int) ≤ 255; decide) 0 rfl w'
  obtain ⟨i0, i1, i2, i3, i4, i5⟩ := HI.out W (Below.refl _ _)
  unfold Ins.val
  go_enter Try.func41, Try.ntmps41
  go_wp2_with fail
  clear hW i0 i1 i2 i3 i4 i5
  refine (QU.out _).mono ?_
  rintro e w1 ⟨⟨ua, uc, rfl⟩, hB1⟩
  have HB1 := Lib.hid hB1
  have HR1 := Lib.hid (HR.out.keep hB1)
  clear hB1
  obtain ⟨i0, i1, i2, i3, i4, i5⟩ := HI.out w1 HB1.out
  have r4 : w1.cell? ⟨G.mb, 4, none⟩ = some (.slice G.sa G.ns G.sc) := HR1.out.cell 4
  have r8 : w1.cell? ⟨G.mb, 8, none⟩ = some (.int .i64 (heldR sh s)) := HR1.out.cell 8
  rw [HHV.out] at r8
  have QI : Hid (∀ k', Calls Try.prog 35 #[.slice G.sa G.ns G.sc, .string sym] (World.drewN w1 k') fun e w' => e = .returned (.int .i64 (k : Int)) ∧ ∃ q, w' = World.drewN w1 q) := fun k' => rIndex_any sh G.sa G.ns G.sc sym (k : Int) _ (HS.out.below HB1.out) HSL.out HK.out k'
  go_wp2_with fail
  by_cases he : hv = (k : Int)
  · have he' : (hv != (k : Int)) = false := by simpa using he
    have HE := Lib.hid (HEQ.out.1 he)
    clear he
    go_quiet (first | (go_at_call 35; with_reducible exact QI.out _))
    generalize hV : World.drewN _ _ = w2
    have HB2 := Lib.hid (below_drawn2 HB1.out hV)
    have HR2 := Lib.hid (HR1.out.keep (self_drawn hV))
    clear hV
    clear i0 i1 i2 i3 i4 i5 r4 r8
    clear QI
    have z8 : w2.frozen? ⟨G.mb, 8, none⟩ = false := HR2.out.free 8
    have r8 : w2.cell? ⟨G.mb, 8, none⟩ = some (.int .i64 hv) := by rw [← HHV.out]; exact HR2.out.cell 8
    obtain ⟨wS, hS⟩ : ∃ wS : World, w2.setCell ⟨G.mb, 8, none⟩ (.int .i64 (-1)) = wS := ⟨_, rfl⟩
    have HRS : Hid (RefAt N G sh wS uv n 0 { s with locked := false, held := ⟨#[]⟩ }) := by show RefAt _ _ _ _ _ _ _ _; rw [← hS]; exact HR2.out.unlock
    have HZS : Hid (Below N w wS) := by show Below _ _ _; rw [← hS]; exact ((HBW.out.mono HN0.out).trans (HB2.out.mono HNW.out)).setCell HR2.out.mb_ _
    have HXS : Hid (ICells w.heap.size ⟨12, d, x, y, imm, sym⟩ wS) := by show ICells _ _ _; rw [← hS]; exact (HI.out _ HB2.out).other (fun e => absurd (lt_heap HH.out.run) (by omega))
    obtain ⟨e0, e1, e2, e3, e4, e5⟩ := HXS.out
    simp only at e0 e1 e2 e3 e4 e5
    go_wp2_with fail
    clear hS z8 r8 e0 e1 e2 e3 e4 e5
    refine (QD.out _).mono ?_
    rintro e wz ⟨rfl, hB9⟩
    have HRZ := Lib.hid (HRS.out.keep hB9)
    have HZZ := Lib.hid (HZS.out.trans (hB9.mono (Nat.le_trans HN0.out HZS.out.size)))
    clear hB9
    go_wp2_with fail
    go_ret
    exact RStep.ok (by rw [step_12, if_neg (by rw [HE.out.1, HE.out.2]; simp)]) HRZ.out HZZ.out
  · have he' : (hv != (k : Int)) = true := by simpa using he
    have HE : Hid (s.locked = false ∨ ¬ s.held = sym) := by
      show _ ∨ _
      cases hl : s.locked with
      | false => exact .inl rfl
      | true => exact .inr (fun e => he (HEQ.out.2 ⟨hl, e⟩))
    clear he
    go_quiet (first | (go_at_call 35; with_reducible exact QI.out _))
    generalize hV : World.drewN _ _ = w2
    have HB2 := Lib.hid (below_drawn2 HB1.out hV)
    have HR2 := Lib.hid (HR1.out.keep (self_drawn hV))
    clear hV
    clear i0 i1 i2 i3 i4 i5 r4 r8
    go_wp2_with fail
    go_ret
    exact RStep.trap (by rw [step_12, if_pos HE.out]) HR2.out ((HBW.out.mono HN0.out).trans (HB2.out.mono HNW.out))

end Go.Proofs.Ytjdfcpjlmfaaaaa

/-
  Contract: step (package ontimeref17: machine), operation by operation.
-/
namespace Go.Proofs.Ytjdfcpjlmfaaaaa
set_option linter.unusedVariables false
set_option linter.unusedSimpArgs false
open Go.RowKit
set_option maxRecDepth 100000
set_option maxHeartbeats 8000000
theorem rstep_10 (N : Nat) (G : RGeo) (sh : List (ByteArray × Int)) (names : List ByteArray) (inp : List Int) (d : Int) (x : Nat) (y : Int) (imm : Int) (sym : ByteArray) (w : World) (uv : Value) (n : Int) (s : St) (h : RefAt N G sh w uv n 0 s) (hN : N ≤ w.heap.size) (hx : x < s.regs.length) (hol : s.out.length < 8000000000) :
    Calls Try.prog 41 #[.pointer (some ⟨G.mb, 0, none⟩), Ins.val ⟨10, d, ((x : Nat) : Int), y, imm, sym⟩] w (RStep N G sh n s w (step names inp ⟨10, d, ((x : Nat) : Int), y, imm, sym⟩ s)) := by
  obtain ⟨W, hW⟩ : ∃ W : World, w.alloc (.cells #[.int .u8 10, .int .i64 d, .int .i64 ((x : Nat) : Int), .int .i64 y, .int .i64 imm, .string sym] 77) = W := ⟨_, rfl⟩
  have HBW : Hid (Below w.heap.size w W) := by show Below _ _ _; rw [← hW]; exact (Below.refl _ _).alloc (Nat.le_refl _) _
  have HX : Hid (W.heap[w.heap.size]? = some (.cells #[.int .u8 10, .int .i64 d, .int .i64 ((x : Nat) : Int), .int .i64 y, .int .i64 imm, .string sym] 77)) := by show _ = _; rw [← hW]; exact (MapKept.heap_alloc w _).1
  have HI : Hid (∀ w', Below W.heap.size W w' → ICells w.heap.size ⟨10, d, ((x : Nat) : Int), y, imm, sym⟩ w') := fun w' hb => ICells.of ((hb.block _ (lt_heap HX.out)).trans HX.out)
  have HR := Lib.hid (h.keep HBW.out)
  have HH := Lib.hid h
  have HNW : Hid (N ≤ W.heap.size) := Nat.le_trans hN HBW.out.size
  have HN0 := Lib.hid hN
  have Hxr := Lib.hid hx
  have x0 : (0 : Int) ≤ (x : Int) := by omega
  have x1 : (x : Int) < (s.regs.length : Int) := by omega
  have wx := HR.out.regw hx
  have x2 := wx.1
  have x3 := wx.2
  have Kx := Lib.hid wx
  clear wx hx
  clear h hN
  have QD : Hid (∀ w', Calls Try.prog 31 #[.agg #[.int .u8 10, .int .i64 d, .int .i64 ((x : Nat) : Int), .int .i64 y, .int .i64 imm, .string sym]] w' fun e w'' => e = .returned (.tuple #[.int .i64 0, .bool false]) ∧ Below w'.heap.size w' w'') := fun w' => rDefines_any ⟨10, d, ((x : Nat) : Int), y, imm, sym⟩ (by show (0 : Int) ≤ 10; decide) (by show (10 : Int) ≤ 255; decide) _ _ rfl rfl w'
  have QU : Hid (∀ w', Calls Try.prog 32 #[.agg #[.int .u8 10, .int .i64 d, .int .i64 ((x : Nat) : Int), .int .i64 y, .int .i64 imm, .string sym]] w' fun e w'' => (∃ a c, e = .returned (.slice a 1 c)) ∧ Below w'.heap.size w' w'') := fun w' => rUses_any ⟨10, d, ((x : Nat) : Int), y, imm, sym⟩ (by show (0 : Int) ≤ 10; decide) (by show (10 : Int) ≤ 255; decide) 1 rfl w'
  obtain ⟨i0, i1, i2, i3, i4, i5⟩ := HI.out W (Below.refl _ _)
  unfold Ins.val
  go_enter Try.func41, Try.ntmps41
  go_wp2_with fail
  clear hW i0 i1 i2 i3 i4 i5
  refine (QU.out _).mono ?_
  rintro e w1 ⟨⟨ua, uc, rfl⟩, hB1⟩
  have HB1 := Lib.hid hB1
  have HR1 := Lib.hid (HR.out.keep hB1)
  clear hB1
  obtain ⟨i0, i1, i2, i3, i4, i5⟩ := HI.out w1 HB1.out
  have r6 : w1.cell? ⟨G.mb, 6, none⟩ = some (.slice (some ⟨G.rg, 0, none⟩) s.regs.length s.regs.length) := HR1.out.cell 6
  have vx := HR1.out.reg Hxr.out
  go_wp2_with fail
  go_quiet (fail)
  generalize hV : World.drewN _ _ = w2
  have HB2 := Lib.hid (below_drawn2 HB1.out hV)
  have HR2 := Lib.hid (HR1.out.keep (self_drawn hV))
  clear hV
  clear i0 i1 i2 i3 i4 i5 r6 vx
  obtain ⟨i0, i1, i2, i3, i4, i5⟩ := HI.out w2 HB2.out
  have r11 : w2.cell? ⟨G.mb, 11, none⟩ = some (uv) := HR2.out.cell 11
  go_wp2_with fail
  have HSD : Hid (∀ w', Below w2.heap.size w2 w' → w'.cell? ⟨w.heap.size, 4, none⟩ = some (.int .i64 imm)) := fun w' hb => (HI.out _ (below_then HB2.out hb)).2.2.2.2.1
  obtain ⟨ti, hi, hz0, hz1, hz2⟩ := info_parts Try.infoOut
  have HNV : Hid (N ≤ w2.heap.size) := Nat.le_trans HNW.out HB2.out.size
  refine wp_region_held_drew (S := fun w' => w'.cell? ⟨w.heap.size, 4, none⟩ = some (.int .i64 imm)) (by kernel_rfl) (HSD.out _ (Below.refl _ _).drew) (fun hHeld => ?_)
  have HBD : Hid (Below w2.heap.size w2 w2.drew) := (Below.refl _ _).drew
  generalize hwd : w2.drew = D at hHeld HBD ⊢
  clear hwd i0 i1 i2 i3 i4 i5 r11
  have HRD := Lib.hid (HR2.out.keep HBD.out)
  have HND : Hid (N ≤ D.heap.size) := Nat.le_trans HNV.out HBD.out.size
  have r11 : D.cell? ⟨G.mb, 11, none⟩ = some uv := HRD.out.cell 11
  obtain ⟨DA, hDA⟩ : ∃ DA : World, D.alloc (.cells #[.int .i64 imm, .int .i32 (s.reg x)] 80) = DA := ⟨_, rfl⟩
  have HBA : Hid (Below w2.heap.size w2 DA) := by show Below _ _ _; rw [← hDA]; exact HBD.out.alloc HBD.out.size _
  have HNA : Hid (N ≤ DA.heap.size) := Nat.le_trans HNV.out HBA.out.size
  have HON : Hid (∀ (k : Nat) (u : Value), [Value.int .i64 imm, .int .i32 (s.reg x)][k]? = some u → DA.cell? ((⟨D.heap.size, 0, none⟩ : Addr).add k) = some u) := by show ∀ _ _, _; rw [← hDA]; exact out_new D _ _
  have HRA := Lib.hid (HR2.out.keep HBA.out)
  have a11 : DA.cell? ⟨G.mb, 11, none⟩ = some uv := HRA.out.cell 11
  refine wpAnyH_take (i := 0) (v := .pointer (some ⟨G.mb, 0, none⟩)) rfl (by kernel_rfl) (by kernel_rfl) (by kernel_rfl) (fun _ _ _ h => h) (Or.inl ⟨by rfl, ?_⟩) (by assumption) ?_
  · intro w' hSw; go_simp
  (try simp only [Act.put, List.getElem_toArray, List.getElem_cons_zero, List.setIfInBounds_toArray, List.set_cons_zero, List.set_cons_succ])
  refine wpAnyH_take (i := 1) (v := .pointer (some ⟨G.mb, 0, none⟩)) rfl (by kernel_rfl) (by kernel_rfl) (by kernel_rfl) (fun _ _ _ h => h) (Or.inl ⟨by rfl, ?_⟩) (by assumption) ?_
  · intro w' hSw; go_simp
  (try simp only [Act.put, List.getElem_toArray, List.getElem_cons_zero, List.getElem_cons_succ, List.setIfInBounds_toArray, List.set_cons_zero, List.set_cons_succ])
  refine wpAnyH_take (i := 2) (v := .pointer (some ⟨G.mb, 0, none⟩)) rfl (by kernel_rfl) (by kernel_rfl) (by kernel_rfl) (fun _ _ _ h => h) (Or.inl ⟨by rfl, ?_⟩) (by assumption) ?_
  · intro w' hSw; go_simp
  (try simp only [Act.put, List.getElem_toArray, List.getElem_cons_zero, List.getElem_cons_succ, List.setIfInBounds_toArray, List.set_cons_zero, List.set_cons_succ])
  refine wpAnyH_take (i := 3) (v := .pointer (some ⟨G.mb, 9, none⟩)) rfl (by kernel_rfl) (by kernel_rfl) (by kernel_rfl) (fun _ _ _ h => h) (Or.inl ⟨by rfl, ?_⟩) (by assumption) ?_
  · intro w' hSw; go_simp
  (try simp only [Act.put, List.getElem_toArray, List.getElem_cons_zero, List.getElem_cons_succ, List.setIfInBounds_toArray, List.set_cons_zero, List.set_cons_succ])
  refine wpAnyH_take (i := 4) (v := .pointer (some ⟨G.mb, 11, none⟩)) rfl (by kernel_rfl) (by kernel_rfl) (by kernel_rfl) (fun _ _ _ h => h) (Or.inl ⟨by rfl, ?_⟩) (by assumption) ?_
  · intro w' hSw; go_simp
  (try simp only [Act.put, List.getElem_toArray, List.getElem_cons_zero, List.getElem_cons_succ, List.setIfInBounds_toArray, List.set_cons_zero, List.set_cons_succ])
  refine wpAnyH_take (i := 6) (v := .pointer (some ⟨w.heap.size, 4, none⟩)) rfl (by kernel_rfl) (by kernel_rfl) (by kernel_rfl) (fun _ _ _ h => h) (Or.inl ⟨by rfl, ?_⟩) (by assumption) ?_
  · intro w' hSw; go_simp
  (try simp only [Act.put, List.getElem_toArray, List.getElem_cons_zero, List.getElem_cons_succ, List.setIfInBounds_toArray, List.set_cons_zero, List.set_cons_succ])
  refine wpAnyH_take (i := 7) (v := .int .i64 imm) rfl (by kernel_rfl) (by kernel_rfl) (by kernel_rfl) (fun _ _ _ h => h) (Or.inl ⟨by rfl, ?_⟩) (by assumption) ?_
  · intro w' hSw; go_simp
  (try simp only [Act.put, List.getElem_toArray, List.getElem_cons_zero, List.getElem_cons_succ, List.setIfInBounds_toArray, List.set_cons_zero, List.set_cons_succ])
  refine wpAnyH_take (i := 8) (v := .int .i32 (s.reg x)) rfl (by kernel_rfl) (by kernel_rfl) (by kernel_rfl) (fun _ _ _ h => h) (Or.inl ⟨by rfl, ?_⟩) (by assumption) ?_
  · intro w' hSw; go_simp
  (try simp only [Act.put, List.getElem_toArray, List.getElem_cons_zero, List.getElem_cons_succ, List.setIfInBounds_toArray, List.set_cons_zero, List.set_cons_succ])
  refine wpAnyH_take (i := 9) (v := .agg #[.int .i64 imm, .int .i32 (s.reg x)]) rfl (by kernel_rfl) (by kernel_rfl) (by kernel_rfl) (fun _ _ _ h => h) (Or.inl ⟨by rfl, ?_⟩) (by assumption) ?_
  · intro w' hSw; go_simp
  (try simp only [Act.put, List.getElem_toArray, List.getElem_cons_zero, List.getElem_cons_succ, List.setIfInBounds_toArray, List.set_cons_zero, List.set_cons_succ])
  refine wpAnyH_ready (rs := [5, 10]) (by kernel_rfl) (by simp) (AllReadyH.cons rfl (fun K hK => ?_) (AllReadyH.cons rfl (fun K hK => ?_) AllReadyH.nil))
  · go_simp
    refine hK.out _ _ (hHeld) (fun hHeld => ?_)
    clear hK K
    rename_i hOld
    clear hOld
    (try simp only [Act.put, List.getElem_toArray, List.getElem_cons_zero, List.getElem_cons_succ, List.setIfInBounds_toArray, List.set_cons_zero, List.set_cons_succ])
    refine wpAnyH_ready (rs := [10]) (by kernel_rfl) (by simp) (AllReadyH.cons rfl (fun K hK => ?_) AllReadyH.nil)
    go_simp
    clear hDA r11
    refine hK.out _ _ (HSD.out _ HBA.out) (fun hHeld => ?_)
    clear hK K
    rename_i hOld
    clear hOld
    (try simp only [Act.put, List.getElem_toArray, List.getElem_cons_zero, List.getElem_cons_succ, List.setIfInBounds_toArray, List.set_cons_zero, List.set_cons_succ])
    refine wpAnyH_ready (rs := [11]) (by kernel_rfl) (by simp) (AllReadyH.cons rfl (fun K hK => ?_) AllReadyH.nil)
    refine step_append_row rfl (.tmp 183) (.tmp 188) 38 rfl N 80 ti _ 2 16 Try.underlying38 hi hz0 hz1 hz2 rfl (by decide) uv s.out.length (outs s.out) (by simp [Act.eval]) HRA.out.out ⟨D.heap.size, 0, none⟩ 1 1 [.int .i64 imm, .int .i32 (s.reg x)] (by simp [Act.eval]) rfl HON.out (by simp [Value.oneCell']) (by decide) (by unfold maxLen; omega) (by omega) HNA.out ?_
    intro gb cap w2 hown2 hgrow hplace
    have HO2 := Lib.hid hown2
    have HG2 := Lib.hid hgrow
    have hold : ∀ {b : Nat} {arr : Array Value} {t : TypeId}, DA.heap[b]? = some (.cells arr t) → t ≠ 80 → w2.heap[b]? = some (.cells arr t) := fun hb ht => (HG2.out.block _ (lt_heap hb) (fun e => own_ne_type HRA.out.out hb ht e.symm)).trans hb
    have q11 : w2.cell? ⟨G.mb, 11, none⟩ = some uv := cell_heap (hold HRA.out.run (by decide)) 11
    have z11 : w2.frozen? ⟨G.mb, 11, none⟩ = false := frozen_heap (hold HRA.out.run (by decide)) 11
    have HIB : Hid (w2.heap[w.heap.size]? = some (.cells #[.int .u8 10, .int .i64 d, .int .i64 ((x : Nat) : Int), .int .i64 y, .int .i64 imm, .string sym] 77)) := hold ((below_then HB2.out HBA.out).block _ (lt_heap HX.out) |>.trans HX.out) (by decide)
    clear hown2 hgrow hplace hold a11
    refine hK.out _ _ (cell_heap HIB.out 4) (fun hHeld => ?_)
    clear hK K
    rename_i hOld
    clear hOld
    (try simp only [Act.put, List.getElem_toArray, List.getElem_cons_zero, List.getElem_cons_succ, List.setIfInBounds_toArray, List.set_cons_zero, List.set_cons_succ])
    refine wpAnyH_take (i := 12) (v := .pointer (some ⟨G.mb, 0, none⟩)) rfl (by kernel_rfl) (by kernel_rfl) (by kernel_rfl) (fun _ _ _ h => h) (Or.inl ⟨by rfl, ?_⟩) (by assumption) ?_
    · intro w' hSw; go_simp
    (try simp only [Act.put, List.getElem_toArray, List.getElem_cons_zero, List.getElem_cons_succ, List.setIfInBounds_toArray, List.set_cons_zero, List.set_cons_succ])
    refine wpAnyH_take (i := 13) (v := .pointer (some ⟨G.mb, 9, none⟩)) rfl (by kernel_rfl) (by kernel_rfl) (by kernel_rfl) (fun _ _ _ h => h) (Or.inl ⟨by rfl, ?_⟩) (by assumption) ?_
    · intro w' hSw; go_simp
    (try simp only [Act.put, List.getElem_toArray, List.getElem_cons_zero, List.getElem_cons_succ, List.setIfInBounds_toArray, List.set_cons_zero, List.set_cons_succ])
    refine wpAnyH_take (i := 14) (v := .pointer (some ⟨G.mb, 11, none⟩)) rfl (by kernel_rfl) (by kernel_rfl) (by kernel_rfl) (fun _ _ _ h => h) (Or.inl ⟨by rfl, ?_⟩) (by assumption) ?_
    · intro w' hSw; go_simp
    (try simp only [Act.put, List.getElem_toArray, List.getElem_cons_zero, List.getElem_cons_succ, List.setIfInBounds_toArray, List.set_cons_zero, List.set_cons_succ])
    refine wpAnyH_ready (rs := [15]) (by kernel_rfl) (by simp) (AllReadyH.cons rfl (fun K hK => ?_) AllReadyH.nil)
    go_simp
    generalize hS : World.setCell _ _ _ = wS
    have HRS : Hid (RefAt N G sh wS (.slice (some ⟨gb, 0, none⟩) (s.out.length + 1) cap) n 0 { s with out := s.out ++ [(imm, s.reg x)] }) := by show RefAt _ _ _ _ _ _ _ _; rw [← hS]; exact HR2.out.push HBA.out HG2.out HO2.out
    have HZS : Hid (Below N w wS) := by show Below _ _ _; rw [← hS]; exact ((HBW.out.mono HN0.out).trans (HB2.out.mono HNW.out)).trans (HR2.out.pushBelow HBA.out HNV.out HG2.out)
    have HXS : Hid (ICells w.heap.size ⟨10, d, ((x : Nat) : Int), y, imm, sym⟩ wS) := by show ICells _ _ _; rw [← hS]; exact (ICells.of (i := ⟨10, d, ((x : Nat) : Int), y, imm, sym⟩) HIB.out).other (fun e => absurd (lt_heap HH.out.run) (by omega))
    have HXC : Hid (wS.cell? ⟨w.heap.size, 4, none⟩ = some (.int .i64 imm)) := HXS.out.2.2.2.2.1
    clear hS q11 z11
    refine hK.out _ _ (HXC.out) (fun hHeld => ?_)
    clear hK K
    rename_i hOld
    clear hOld
    (try simp only [Act.put, List.getElem_toArray, List.getElem_cons_zero, List.getElem_cons_succ, List.setIfInBounds_toArray, List.set_cons_zero, List.set_cons_succ])
    refine wpAnyH_done (by kernel_rfl) ?_ _
    obtain ⟨e0, e1, e2, e3, e4, e5⟩ := HXS.out
    simp only at e0 e1 e2 e3 e4 e5
    go_wp2_with fail
    clear e0 e1 e2 e3 e4 e5
    refine (QD.out _).mono ?_
    rintro e wz ⟨rfl, hB9⟩
    have HRZ := Lib.hid (HRS.out.keep hB9)
    have HZZ := Lib.hid (HZS.out.trans (hB9.mono (Nat.le_trans HN0.out HZS.out.size)))
    clear hB9
    go_wp2_with fail
    go_ret
    exact RStep.ok step_10 HRZ.out HZZ.out
  · go_simp
    clear hDA r11
    refine hK.out _ _ (HSD.out _ HBA.out) (fun hHeld => ?_)
    clear hK K
    rename_i hOld
    clear hOld
    (try simp only [Act.put, List.getElem_toArray, List.getElem_cons_zero, List.getElem_cons_succ, List.setIfInBounds_toArray, List.set_cons_zero, List.set_cons_succ])
    refine wpAnyH_ready (rs := [5]) (by kernel_rfl) (by simp) (AllReadyH.cons rfl (fun K hK => ?_) AllReadyH.nil)
    go_simp
    refine hK.out _ _ (hHeld) (fun hHeld => ?_)
    clear hK K
    rename_i hOld
    clear hOld
    (try simp only [Act.put, List.getElem_toArray, List.getElem_cons_zero, List.getElem_cons_succ, List.setIfInBounds_toArray, List.set_cons_zero, List.set_cons_succ])
    refine wpAnyH_ready (rs := [11]) (by kernel_rfl) (by simp) (AllReadyH.cons rfl (fun K hK => ?_) AllReadyH.nil)
    refine step_append_row rfl (.tmp 183) (.tmp 188) 38 rfl N 80 ti _ 2 16 Try.underlying38 hi hz0 hz1 hz2 rfl (by decide) uv s.out.length (outs s.out) (by simp [Act.eval]) HRA.out.out ⟨D.heap.size, 0, none⟩ 1 1 [.int .i64 imm, .int .i32 (s.reg x)] (by simp [Act.eval]) rfl HON.out (by simp [Value.oneCell']) (by decide) (by unfold maxLen; omega) (by omega) HNA.out ?_
    intro gb cap w2 hown2 hgrow hplace
    have HO2 := Lib.hid hown2
    have HG2 := Lib.hid hgrow
    have hold : ∀ {b : Nat} {arr : Array Value} {t : TypeId}, DA.heap[b]? = some (.cells arr t) → t ≠ 80 → w2.heap[b]? = some (.cells arr t) := fun hb ht => (HG2.out.block _ (lt_heap hb) (fun e => own_ne_type HRA.out.out hb ht e.symm)).trans hb
    have q11 : w2.cell? ⟨G.mb, 11, none⟩ = some uv := cell_heap (hold HRA.out.run (by decide)) 11
    have z11 : w2.frozen? ⟨G.mb, 11, none⟩ = false := frozen_heap (hold HRA.out.run (by decide)) 11
    have HIB : Hid (w2.heap[w.heap.size]? = some (.cells #[.int .u8 10, .int .i64 d, .int .i64 ((x : Nat) : Int), .int .i64 y, .int .i64 imm, .string sym] 77)) := hold ((below_then HB2.out HBA.out).block _ (lt_heap HX.out) |>.trans HX.out) (by decide)
    clear hown2 hgrow hplace hold a11
    refine hK.out _ _ (cell_heap HIB.out 4) (fun hHeld => ?_)
    clear hK K
    rename_i hOld
    clear hOld
    (try simp only [Act.put, List.getElem_toArray, List.getElem_cons_zero, List.getElem_cons_succ, List.setIfInBounds_toArray, List.set_cons_zero, List.set_cons_succ])
    refine wpAnyH_take (i := 12) (v := .pointer (some ⟨G.mb, 0, none⟩)) rfl (by kernel_rfl) (by kernel_rfl) (by kernel_rfl) (fun _ _ _ h => h) (Or.inl ⟨by rfl, ?_⟩) (by assumption) ?_
    · intro w' hSw; go_simp
    (try simp only [Act.put, List.getElem_toArray, List.getElem_cons_zero, List.getElem_cons_succ, List.setIfInBounds_toArray, List.set_cons_zero, List.set_cons_succ])
    refine wpAnyH_take (i := 13) (v := .pointer (some ⟨G.mb, 9, none⟩)) rfl (by kernel_rfl) (by kernel_rfl) (by kernel_rfl) (fun _ _ _ h => h) (Or.inl ⟨by rfl, ?_⟩) (by assumption) ?_
    · intro w' hSw; go_simp
    (try simp only [Act.put, List.getElem_toArray, List.getElem_cons_zero, List.getElem_cons_succ, List.setIfInBounds_toArray, List.set_cons_zero, List.set_cons_succ])
    refine wpAnyH_take (i := 14) (v := .pointer (some ⟨G.mb, 11, none⟩)) rfl (by kernel_rfl) (by kernel_rfl) (by kernel_rfl) (fun _ _ _ h => h) (Or.inl ⟨by rfl, ?_⟩) (by assumption) ?_
    · intro w' hSw; go_simp
    (try simp only [Act.put, List.getElem_toArray, List.getElem_cons_zero, List.getElem_cons_succ, List.setIfInBounds_toArray, List.set_cons_zero, List.set_cons_succ])
    refine wpAnyH_ready (rs := [15]) (by kernel_rfl) (by simp) (AllReadyH.cons rfl (fun K hK => ?_) AllReadyH.nil)
    go_simp
    generalize hS : World.setCell _ _ _ = wS
    have HRS : Hid (RefAt N G sh wS (.slice (some ⟨gb, 0, none⟩) (s.out.length + 1) cap) n 0 { s with out := s.out ++ [(imm, s.reg x)] }) := by show RefAt _ _ _ _ _ _ _ _; rw [← hS]; exact HR2.out.push HBA.out HG2.out HO2.out
    have HZS : Hid (Below N w wS) := by show Below _ _ _; rw [← hS]; exact ((HBW.out.mono HN0.out).trans (HB2.out.mono HNW.out)).trans (HR2.out.pushBelow HBA.out HNV.out HG2.out)
    have HXS : Hid (ICells w.heap.size ⟨10, d, ((x : Nat) : Int), y, imm, sym⟩ wS) := by show ICells _ _ _; rw [← hS]; exact (ICells.of (i := ⟨10, d, ((x : Nat) : Int), y, imm, sym⟩) HIB.out).other (fun e => absurd (lt_heap HH.out.run) (by omega))
    have HXC : Hid (wS.cell? ⟨w.heap.size, 4, none⟩ = some (.int .i64 imm)) := HXS.out.2.2.2.2.1
    clear hS q11 z11
    refine hK.out _ _ (HXC.out) (fun hHeld => ?_)
    clear hK K
    rename_i hOld
    clear hOld
    (try simp only [Act.put, List.getElem_toArray, List.getElem_cons_zero, List.getElem_cons_succ, List.setIfInBounds_toArray, List.set_cons_zero, List.set_cons_succ])
    refine wpAnyH_done (by kernel_rfl) ?_ _
    obtain ⟨e0, e1, e2, e3, e4, e5⟩ := HXS.out
    simp only at e0 e1 e2 e3 e4 e5
    go_wp2_with fail
    clear e0 e1 e2 e3 e4 e5
    refine (QD.out _).mono ?_
    rintro e wz ⟨rfl, hB9⟩
    have HRZ := Lib.hid (HRS.out.keep hB9)
    have HZZ := Lib.hid (HZS.out.trans (hB9.mono (Nat.le_trans HN0.out HZS.out.size)))
    clear hB9
    go_wp2_with fail
    go_ret
    exact RStep.ok step_10 HRZ.out HZZ.out

end Go.Proofs.Ytjdfcpjlmfaaaaa
