/-
  Contracts: Equal (package ir), with the rows of arrays, instructions and blocks that it compares.
-/
import Derived.Test.YtkpdngfkdmllkaaDoorMg0
import Derived.Test.YtkpdngfkdmllkaaDoorMg3
import Derived.Test.YtkpdngfkdmllkaaDoorMg1
import Derived.Deep.QuietTactic
import Derived.BigQuiet
import Derived.WalkLawsBesides
import Derived.Laws.StructEq
namespace Go.Proofs.YtkpdngfkdmllkaaDoor
set_option linter.unusedVariables false
set_option linter.unusedSimpArgs false
open Go.RowKit
set_option maxRecDepth 100000

/-- an answer: yes just where something holds -/
def EqSays (P : Prop) (w : World) (e : Ending) (w' : World) : Prop := (∃ b : Bool, e = .returned (.bool b) ∧ (b = true ↔ P)) ∧ Below w.heap.size w w'
theorem eq_yes {P : Prop} {w w' : World} (h : P) (hB : Below w.heap.size w w') : EqSays P w (.returned (.bool true)) w' := ⟨⟨true, rfl, by simp [h]⟩, hB⟩
theorem eq_no {P : Prop} {w w' : World} (h : ¬ P) (hB : Below w.heap.size w w') : EqSays P w (.returned (.bool false)) w' := ⟨⟨false, rfl, by simp [h]⟩, hB⟩
theorem eq_take {α : Type} {l m : List α} {j : Nat} {x y : α} (h : l.take j = m.take j) (hx : l[j]? = some x) (hy : m[j]? = some y) (he : x = y) : l.take (j + 1) = m.take (j + 1) := by
  obtain ⟨h1, rfl⟩ := List.getElem?_eq_some_iff.1 hx
  obtain ⟨h2, rfl⟩ := List.getElem?_eq_some_iff.1 hy
  rw [List.take_succ_eq_append_getElem h1, List.take_succ_eq_append_getElem h2, h, he]
theorem eq_at {α : Type} {l m : List α} {j : Nat} {x y : α} (hx : l[j]? = some x) (hy : m[j]? = some y) (he : ¬ x = y) : ¬ l = m := by
  rintro rfl
  rw [hx] at hy
  exact he (by injection hy)
theorem below_more {w wr W : World} (h : Below w.heap.size w wr) {n : Nat} (hW : World.drewN wr n = W) : Below w.heap.size w W := by
  rw [← hW]
  exact ⟨h.os, h.tape, h.output, h.size, h.block⟩
theorem ins_cmp (W : World) (i k : Ins) : (binOp .neq 48 (.agg #[.int .u8 i.op, .int .i64 i.dst, .int .i64 i.x, .int .i64 i.y, .int .i64 i.imm, .string i.sym]) (.agg #[.int .u8 k.op, .int .i64 k.dst, .int .i64 k.x, .int .i64 k.y, .int .i64 k.imm, .string k.sym])).run Tryd.prog W = .ok (.bool (!(i.op == k.op && i.dst == k.dst && i.x == k.x && i.y == k.y && i.imm == k.imm && i.sym.toList == k.sym.toList))) W := by
  have u3 := Tryd.underlying3
  have a3 := Tryd.isAgg3
  have z3 := Tryd.sizeOf3
  have u9 := Tryd.underlying9
  have a9 := Tryd.isAgg9
  have z9 := Tryd.sizeOf9
  have u8 := Tryd.underlying5
  have a8 := Tryd.isAgg5
  have z8 := Tryd.sizeOf5
  have hS : Tryd.prog.underlying 48 = some (.struct (Tryd.prog.fieldsOf 48)) := by kernel_rfl
  have hp : Tryd.prog.stoodInHeld 48 = false := by kernel_rfl
  rw [run_neq_struct, show (10000 : Nat) = 9999 + 1 from rfl, run_equalIn_agg W 9999 48 _ _ hS hp]
  simp only [Program.fieldsOf, Tryd.underlying48]
  go_simp
  by_cases h1 : i.op = k.op <;> by_cases h2 : i.dst = k.dst <;> by_cases h3 : i.x = k.x <;> by_cases h4 : i.y = k.y <;> by_cases h5 : i.imm = k.imm <;> by_cases h6 : i.sym.toList = k.sym.toList <;> simp [h1, h2, h3, h4, h5, h6]
theorem ins_neq {i k : Ins} (h : ¬ i = k) (W : World) : (binOp .neq 48 (.agg #[.int .u8 i.op, .int .i64 i.dst, .int .i64 i.x, .int .i64 i.y, .int .i64 i.imm, .string i.sym]) (.agg #[.int .u8 k.op, .int .i64 k.dst, .int .i64 k.x, .int .i64 k.y, .int .i64 k.imm, .string k.sym])).run Tryd.prog W = .ok (.bool true) W := by
  rw [ins_cmp]
  have : (i.op == k.op && i.dst == k.dst && i.x == k.x && i.y == k.y && i.imm == k.imm && i.sym.toList == k.sym.toList) = false := by
    cases hq : (i.op == k.op && i.dst == k.dst && i.x == k.x && i.y == k.y && i.imm == k.imm && i.sym.toList == k.sym.toList) with
    | false => rfl
    | true =>
      exfalso; apply h
      simp at hq
      obtain ⟨⟨⟨⟨⟨h1, h2⟩, h3⟩, h4⟩, h5⟩, h6⟩ := hq
      cases i; cases k
      simp only at h1 h2 h3 h4 h5 h6
      rw [h1, h2, h3, h4, h5, bytes_eq_iff.1 h6]
  rw [this]; rfl
theorem arr_cmp (W : World) (x y : ByteArray × Int) : (binOp .neq 40 (.agg #[.string x.1, .int .i64 x.2]) (.agg #[.string y.1, .int .i64 y.2])).run Tryd.prog W = .ok (.bool (!(x.1.toList == y.1.toList && x.2 == y.2))) W := by
  have u3 := Tryd.underlying3
  have a3 := Tryd.isAgg3
  have z3 := Tryd.sizeOf3
  have u9 := Tryd.underlying9
  have a9 := Tryd.isAgg9
  have z9 := Tryd.sizeOf9
  have hS : Tryd.prog.underlying 40 = some (.struct (Tryd.prog.fieldsOf 40)) := by kernel_rfl
  have hp : Tryd.prog.stoodInHeld 40 = false := by kernel_rfl
  rw [run_neq_struct, show (10000 : Nat) = 9999 + 1 from rfl, run_equalIn_agg W 9999 40 _ _ hS hp]
  simp only [Program.fieldsOf, Tryd.underlying40]
  go_simp
  by_cases h1 : x.1.toList = y.1.toList <;> by_cases h2 : x.2 = y.2 <;> simp [h1, h2]
theorem arr_neq {x y : ByteArray × Int} (h : ¬ x = y) (W : World) : (binOp .neq 40 (.agg #[.string x.1, .int .i64 x.2]) (.agg #[.string y.1, .int .i64 y.2])).run Tryd.prog W = .ok (.bool true) W := by
  rw [arr_cmp]
  have : (x.1.toList == y.1.toList && x.2 == y.2) = false := by
    cases hq : (x.1.toList == y.1.toList && x.2 == y.2) with
    | false => rfl
    | true =>
      exfalso; apply h
      simp at hq
      obtain ⟨h1, h2⟩ := hq
      exact Prod.ext (bytes_eq_iff.1 h1) h2
  rw [this]; rfl
section
set_option maxHeartbeats 4000000
theorem eqArrs_any (l m : List (ByteArray × Int)) (w : World) (a a' : Option Addr) (c c' : Nat) (hl : IrArrsAt w a l) (hm : IrArrsAt w a' m) :
    Calls Tryd.prog 27 #[.slice a l.length c, .slice a' m.length c'] w (EqSays (l = m) w) := by
  have HL := Lib.hid hl
  have HM := Lib.hid hm
  have hll := hl.fits
  have hml := hm.fits
  clear hl hm
  by_cases hlen : l.length = m.length
  · have q0 : ((l.length : Int) != (m.length : Int)) = false := by simp [hlen]
    have HLEN := Lib.hid hlen
    have hle : l.length ≤ m.length := by omega
    clear hlen
    go_enter Tryd.func27, Tryd.ntmps27
    go_wp2_with fail
    go_loopw [5, 13] (fun _ i wr => ∃ j : Nat, j ≤ l.length ∧ i = .int .i64 j ∧ l.take j = m.take j ∧ Below w.heap.size w wr) (fun _ i _ => l.length - (intOf i).toNat)
    case atStart => exact ⟨0, Nat.zero_le _, rfl, rfl, Below.refl _ _⟩
    case round =>
      obtain ⟨j, hj, rfl, htk, hB⟩ := hrel
      have HTK := Lib.hid htk
      have HB := Lib.hid hB
      clear htk hB
      by_cases hlt : j < l.length
      · obtain ⟨r, hr⟩ : ∃ r, l[j]? = some r := ⟨_, List.getElem?_eq_getElem hlt⟩
        obtain ⟨s, hs⟩ : ∃ s, m[j]? = some s := ⟨_, List.getElem?_eq_getElem (by omega)⟩
        rcases HL.out.at_ with h0 | ⟨b, off, rfl, hc⟩
        · omega
        rcases HM.out.at_ with h0 | ⟨b', off', rfl, hd⟩
        · omega
        obtain ⟨c0, c1⟩ := hc j r hr
        obtain ⟨d0, d1⟩ := hd j s hs
        have f0 := ir_cell_below HB.out c0
        have g0 := ir_cell_below HB.out d0
        have f1 := ir_cell_below HB.out c1
        have g1 := ir_cell_below HB.out d1
        have HR := Lib.hid hr
        have HS := Lib.hid hs
        have hj0 : (0 : Int) ≤ (j : Int) := by omega
        have hj1 : (j : Int) < (l.length : Int) := by omega
        have hj2 : (j : Int) < (m.length : Int) := by omega
        clear hr hs hc hd c0 d0 c1 d1
        by_cases he : r = s
        · subst he
          have e0 : ∀ W, (binOp .neq 40 (.agg #[.string r.1, .int .i64 r.2]) (.agg #[.string r.1, .int .i64 r.2])).run Tryd.prog W = .ok (.bool false) W := fun W => by rw [arr_cmp]; simp
          have HN := Lib.hid (eq_take HTK.out HR.out HS.out rfl)
          go_wp2_with fail
          go_quiet (fail)
          generalize hV : World.drewN _ _ = V
          have HBV := Lib.hid (below_more HB.out hV)
          clear hV
          go_wp2_with fail
          go_roundw
          case rel => exact ⟨j + 1, by omega, by go_num, HN.out, HBV.out⟩
          case measure => simp [intOf]; omega
        · have e0 : ∀ W, (binOp .neq 40 (.agg #[.string r.1, .int .i64 r.2]) (.agg #[.string s.1, .int .i64 s.2])).run Tryd.prog W = .ok (.bool true) W := fun W => arr_neq he W
          have HE : Hid (¬ l = m) := eq_at HR.out HS.out he
          clear he
          go_wp2_with fail
          go_quiet (fail)
          generalize hV : World.drewN _ _ = V
          have HBV := Lib.hid (below_more HB.out hV)
          clear hV
          go_wp2_with fail
          go_ret
          exact eq_no HE.out HBV.out
      · obtain rfl : j = l.length := by omega
        have HE : Hid (l = m) := by have := HTK.out; rw [List.take_length, HLEN.out, List.take_length] at this; exact this
        go_wp2_with fail
        go_ret
        exact eq_yes HE.out HB.out
  · have q0 : ((l.length : Int) != (m.length : Int)) = true := by simp; omega
    have HE : Hid (¬ l = m) := fun e => hlen (by rw [e])
    clear hlen
    go_enter Tryd.func27, Tryd.ntmps27
    go_wp2_with fail
    go_ret
    exact eq_no HE.out (Below.refl _ _)
theorem eqCode_any (l m : List Ins) (w : World) (a a' : Option Addr) (c c' : Nat) (hl : CodeAt w a l) (hm : CodeAt w a' m) :
    Calls Tryd.prog 26 #[.slice a l.length c, .slice a' m.length c'] w (EqSays (l = m) w) := by
  have HL := Lib.hid hl
  have HM := Lib.hid hm
  have hll := hl.fits
  have hml := hm.fits
  clear hl hm
  by_cases hlen : l.length = m.length
  · have q0 : ((l.length : Int) != (m.length : Int)) = false := by simp [hlen]
    have HLEN := Lib.hid hlen
    have hle : l.length ≤ m.length := by omega
    clear hlen
    go_enter Tryd.func26, Tryd.ntmps26
    go_wp2_with fail
    go_loopw [5, 13] (fun _ i wr => ∃ j : Nat, j ≤ l.length ∧ i = .int .i64 j ∧ l.take j = m.take j ∧ Below w.heap.size w wr) (fun _ i _ => l.length - (intOf i).toNat)
    case atStart => exact ⟨0, Nat.zero_le _, rfl, rfl, Below.refl _ _⟩
    case round =>
      obtain ⟨j, hj, rfl, htk, hB⟩ := hrel
      have HTK := Lib.hid htk
      have HB := Lib.hid hB
      clear htk hB
      by_cases hlt : j < l.length
      · obtain ⟨r, hr⟩ : ∃ r, l[j]? = some r := ⟨_, List.getElem?_eq_getElem hlt⟩
        obtain ⟨s, hs⟩ : ∃ s, m[j]? = some s := ⟨_, List.getElem?_eq_getElem (by omega)⟩
        rcases HL.out.at_ with h0 | ⟨b, off, rfl, hc⟩
        · omega
        rcases HM.out.at_ with h0 | ⟨b', off', rfl, hd⟩
        · omega
        obtain ⟨c0, c1, c2, c3, c4, c5⟩ := hc j r hr
        obtain ⟨d0, d1, d2, d3, d4, d5⟩ := hd j s hs
        have f0 := ir_cell_below HB.out c0
        have g0 := ir_cell_below HB.out d0
        have f1 := ir_cell_below HB.out c1
        have g1 := ir_cell_below HB.out d1
        have f2 := ir_cell_below HB.out c2
        have g2 := ir_cell_below HB.out d2
        have f3 := ir_cell_below HB.out c3
        have g3 := ir_cell_below HB.out d3
        have f4 := ir_cell_below HB.out c4
        have g4 := ir_cell_below HB.out d4
        have f5 := ir_cell_below HB.out c5
        have g5 := ir_cell_below HB.out d5
        have HR := Lib.hid hr
        have HS := Lib.hid hs
        have hj0 : (0 : Int) ≤ (j : Int) := by omega
        have hj1 : (j : Int) < (l.length : Int) := by omega
        have hj2 : (j : Int) < (m.length : Int) := by omega
        clear hr hs hc hd c0 d0 c1 d1 c2 d2 c3 d3 c4 d4 c5 d5
        by_cases he : r = s
        · subst he
          have e0 : ∀ W, (binOp .neq 48 (.agg #[.int .u8 r.op, .int .i64 r.dst, .int .i64 r.x, .int .i64 r.y, .int .i64 r.imm, .string r.sym]) (.agg #[.int .u8 r.op, .int .i64 r.dst, .int .i64 r.x, .int .i64 r.y, .int .i64 r.imm, .string r.sym])).run Tryd.prog W = .ok (.bool false) W := fun W => by rw [ins_cmp]; simp
          have HN := Lib.hid (eq_take HTK.out HR.out HS.out rfl)
          go_wp2_with fail
          go_quiet (fail)
          generalize hV : World.drewN _ _ = V
          have HBV := Lib.hid (below_more HB.out hV)
          clear hV
          go_wp2_with fail
          go_roundw
          case rel => exact ⟨j + 1, by omega, by go_num, HN.out, HBV.out⟩
          case measure => simp [intOf]; omega
        · have e0 : ∀ W, (binOp .neq 48 (.agg #[.int .u8 r.op, .int .i64 r.dst, .int .i64 r.x, .int .i64 r.y, .int .i64 r.imm, .string r.sym]) (.agg #[.int .u8 s.op, .int .i64 s.dst, .int .i64 s.x, .int .i64 s.y, .int .i64 s.imm, .string s.sym])).run Tryd.prog W = .ok (.bool true) W := fun W => ins_neq he W
          have HE : Hid (¬ l = m) := eq_at HR.out HS.out he
          clear he
          go_wp2_with fail
          go_quiet (fail)
          generalize hV : World.drewN _ _ = V
          have HBV := Lib.hid (below_more HB.out hV)
          clear hV
          go_wp2_with fail
          go_ret
          exact eq_no HE.out HBV.out
      · obtain rfl : j = l.length := by omega
        have HE : Hid (l = m) := by have := HTK.out; rw [List.take_length, HLEN.out, List.take_length] at this; exact this
        go_wp2_with fail
        go_ret
        exact eq_yes HE.out HB.out
  · have q0 : ((l.length : Int) != (m.length : Int)) = true := by simp; omega
    have HE : Hid (¬ l = m) := fun e => hlen (by rw [e])
    clear hlen
    go_enter Tryd.func26, Tryd.ntmps26
    go_wp2_with fail
    go_ret
    exact eq_no HE.out (Below.refl _ _)
/-- the closure of Equal: two blocks -/
theorem eqBlk_any (b k : Blk) (w : World) (a a' : Option Addr) (c c' : Nat) (hl : CodeAt w a b.code) (hm : CodeAt w a' k.code) :
    Calls Tryd.prog 25 #[b.val a c, k.val a' c'] w (EqSays (b = k) w) := by
  have HL := Lib.hid hl
  have HM := Lib.hid hm
  have hll := hl.fits
  have hml := hm.fits
  clear hl hm
  have HB : Hid (Below w.heap.size w ((w.alloc (.cells #[.slice a b.code.length c, .int .u8 b.kind, .int .i64 b.x, .int .i64 b.to, .int .i64 b.els] 46)).alloc (.cells #[.slice a' k.code.length c', .int .u8 k.kind, .int .i64 k.x, .int .i64 k.to, .int .i64 k.els] 46))) := ((Below.refl _ _).alloc (Nat.le_refl _) _).alloc (by simp) _
  unfold Blk.val
  by_cases h1 : b.kind = k.kind
  · have h1' : (b.kind == k.kind) = true := by simpa using h1
    by_cases h2 : b.x = k.x
    · have h2' : (b.x == k.x) = true := by simpa using h2
      by_cases h3 : b.to = k.to
      · have h3' : (b.to == k.to) = true := by simpa using h3
        by_cases h4 : b.els = k.els
        · have h4' : (b.els == k.els) = true := by simpa using h4
          have HE : Hid (b = k ↔ b.code = k.code) := by
            constructor
            · rintro rfl; rfl
            · intro h
              cases b; cases k
              simp only at h1 h2 h3 h4 h
              rw [h1, h2, h3, h4, h]
          clear h1 h2 h3 h4
          go_enter Tryd.func25, Tryd.ntmps25
          go_wp2_with fail
          refine (eqCode_any b.code k.code _ a a' c c' (HL.out.below HB.out) (HM.out.below HB.out)).mono ?_
          rintro e w1 ⟨⟨v, rfl, hv⟩, hB1⟩
          have HV := Lib.hid hv
          have HB1 := Lib.hid (HB.out.trans (hB1.mono HB.out.size))
          clear hv hB1
          cases v
          all_goals
            go_wp2_with fail
            go_ret
            exact ⟨⟨_, rfl, by have := HV.out.trans HE.out.symm; simpa using this⟩, HB1.out⟩
        · have h4' : (b.els == k.els) = false := by simpa using h4
          have HE : Hid (¬ b = k) := by rintro rfl; exact h4 rfl
          clear h1 h2 h3 h4
          go_enter Tryd.func25, Tryd.ntmps25
          go_wp2_with fail
          go_ret
          exact eq_no HE.out HB.out
      · have h3' : (b.to == k.to) = false := by simpa using h3
        have HE : Hid (¬ b = k) := by rintro rfl; exact h3 rfl
        clear h1 h2 h3
        go_enter Tryd.func25, Tryd.ntmps25
        go_wp2_with fail
        go_ret
        exact eq_no HE.out HB.out
    · have h2' : (b.x == k.x) = false := by simpa using h2
      have HE : Hid (¬ b = k) := by rintro rfl; exact h2 rfl
      clear h1 h2
      go_enter Tryd.func25, Tryd.ntmps25
      go_wp2_with fail
      go_ret
      exact eq_no HE.out HB.out
  · have h1' : (b.kind == k.kind) = false := by simpa using h1
    have HE : Hid (¬ b = k) := by rintro rfl; exact h1 rfl
    clear h1
    go_enter Tryd.func25, Tryd.ntmps25
    go_wp2_with fail
    go_ret
    exact eq_no HE.out HB.out
theorem eqBlks_any (l m : List Blk) (w : World) (a a' : Option Addr) (c c' : Nat) (hl : BlksAt w a l) (hm : BlksAt w a' m) :
    Calls Tryd.prog 28 #[.slice a l.length c, .slice a' m.length c', .func (.func 25) #[] #[]] w (EqSays (l = m) w) := by
  have HL := Lib.hid hl
  have HM := Lib.hid hm
  have hll := hl.fits
  have hml := hm.fits
  clear hl hm
  by_cases hlen : l.length = m.length
  · have q0 : ((l.length : Int) != (m.length : Int)) = false := by simp [hlen]
    have HLEN := Lib.hid hlen
    have hle : l.length ≤ m.length := by omega
    clear hlen
    go_enter Tryd.func28, Tryd.ntmps28
    go_wp2_with fail
    go_loopw [17] (fun i wr => ∃ j : Nat, j ≤ l.length ∧ i = .int .i64 j ∧ l.take j = m.take j ∧ Below w.heap.size w wr) (fun i _ => l.length - (intOf i).toNat)
    case atStart => exact ⟨0, Nat.zero_le _, rfl, rfl, Below.refl _ _⟩
    case round =>
      obtain ⟨j, hj, rfl, htk, hB⟩ := hrel
      have HTK := Lib.hid htk
      have HB := Lib.hid hB
      have hBs := hB.size
      clear htk hB
      have hj0 : (0 : Int) ≤ (j : Int) := by omega
      by_cases hlt : j < l.length
      · obtain ⟨r, hr⟩ : ∃ r, l[j]? = some r := ⟨_, List.getElem?_eq_getElem hlt⟩
        obtain ⟨s, hs⟩ : ∃ s, m[j]? = some s := ⟨_, List.getElem?_eq_getElem (by omega)⟩
        rcases HL.out.at_ with h0 | ⟨b, off, rfl, hc⟩
        · omega
        rcases HM.out.at_ with h0 | ⟨b', off', rfl, hd⟩
        · omega
        obtain ⟨ca, cc, hb1, hcode1⟩ := hc j r hr
        obtain ⟨da, dc, hb2, hcode2⟩ := hd j s hs
        obtain ⟨f0, f1, f2, f3, f4⟩ := hb1.below HB.out
        obtain ⟨g0, g1, g2, g3, g4⟩ := hb2.below HB.out
        have HC1 := Lib.hid hcode1
        have HC2 := Lib.hid hcode2
        have hb9 : b' < wr.heap.size := World.block_lt_of_cell? _ _ g0
        have hr1 := hcode1.fits
        have hr2 := hcode2.fits
        have HR := Lib.hid hr
        have HS := Lib.hid hs
        have hj1 : (j : Int) < (l.length : Int) := by omega
        have hj2 : (j : Int) < (m.length : Int) := by omega
        clear hr hs hc hd hb1 hb2 hcode1 hcode2
        have HB2 : Hid (Below w.heap.size w ((wr.alloc (.cells #[.slice ca r.code.length cc, .int .u8 r.kind, .int .i64 r.x, .int .i64 r.to, .int .i64 r.els] 46)).alloc (.cells #[.slice da s.code.length dc, .int .u8 s.kind, .int .i64 s.x, .int .i64 s.to, .int .i64 s.els] 46))) := (HB.out.alloc hBs _).alloc (by simp; omega) _
        go_wp2_with fail
        refine (eqBlk_any r s _ ca da cc dc (HC1.out.below HB2.out) (HC2.out.below HB2.out)).mono ?_
        rintro e w1 ⟨⟨v, rfl, hv⟩, hB1⟩
        have HV := Lib.hid hv
        have HB1 := Lib.hid (HB2.out.trans (hB1.mono HB2.out.size))
        clear hv hB1 f0 f1 f2 f3 f4 g0 g1 g2 g3 g4
        cases v with
        | true =>
          have HN := Lib.hid (eq_take HTK.out HR.out HS.out (HV.out.1 rfl))
          go_wp2_with fail
          go_roundw
          case rel => exact ⟨j + 1, by omega, by go_num, HN.out, HB1.out⟩
          case measure => simp [intOf]; omega
        | false =>
          have HE : Hid (¬ l = m) := eq_at HR.out HS.out (fun e => by have := HV.out.2 e; cases this)
          go_wp2_with fail
          go_ret
          exact eq_no HE.out HB1.out
      · obtain rfl : j = l.length := by omega
        have HE : Hid (l = m) := by have := HTK.out; rw [List.take_length, HLEN.out, List.take_length] at this; exact this
        go_wp2_with fail
        go_ret
        exact eq_yes HE.out HB.out
  · have q0 : ((l.length : Int) != (m.length : Int)) = true := by simp; omega
    have HE : Hid (¬ l = m) := fun e => hlen (by rw [e])
    clear hlen
    go_enter Tryd.func28, Tryd.ntmps28
    go_wp2_with fail
    go_ret
    exact eq_no HE.out (Below.refl _ _)
theorem eqFn_any (f g : Fn) (w : World) (aa ba ga ha : Option Addr) (ac bc gc hc : Nat) (hf : FnAt w f aa ba) (hg : FnAt w g ga ha) :
    Calls Tryd.prog 16 #[fnVal f.name f.regs aa f.arrays.length ac ba f.blocks.length bc, fnVal g.name g.regs ga g.arrays.length gc ha g.blocks.length hc] w (EqSays (f = g) w) := by
  have HF := Lib.hid hf
  have HG := Lib.hid hg
  have l1 := hf.arrays.fits
  have l2 := hg.arrays.fits
  have l3 := hf.blocks.fits
  have l4 := hg.blocks.fits
  clear hf hg
  obtain ⟨W, hW⟩ : ∃ W : World, (w.alloc (.cells #[.string f.name, .int .i64 f.regs, .slice aa f.arrays.length ac, .slice ba f.blocks.length bc] 29)).alloc (.cells #[.string g.name, .int .i64 g.regs, .slice ga g.arrays.length gc, .slice ha g.blocks.length hc] 29) = W := ⟨_, rfl⟩
  have HBW : Hid (Below w.heap.size w W) := by show Below _ _ _; rw [← hW]; exact ((Below.refl _ _).alloc (Nat.le_refl _) _).alloc (by simp) _
  have hWs : w.heap.size + 1 < W.heap.size := by rw [← hW]; simp
  have HX : Hid (W.heap[w.heap.size]? = some (.cells #[.string f.name, .int .i64 f.regs, .slice aa f.arrays.length ac, .slice ba f.blocks.length bc] 29)) := by
    show _ = _
    rw [← hW, Below.heap_alloc _ _ _ (by simp)]
    exact (MapKept.heap_alloc w _).1
  have HY : Hid (W.heap[w.heap.size + 1]? = some (.cells #[.string g.name, .int .i64 g.regs, .slice ga g.arrays.length gc, .slice ha g.blocks.length hc] 29)) := by
    show _ = _
    rw [← hW]
    exact MapKept.heap_alloc (w.alloc _) _ |>.1 |> fun h => by simpa using h
  have a0 := cell_heap HX.out 0
  have a1 := cell_heap HX.out 1
  have a2 := cell_heap HX.out 2
  have a3 := cell_heap HX.out 3
  have b0 := cell_heap HY.out 0
  have b1 := cell_heap HY.out 1
  have b2 := cell_heap HY.out 2
  have b3 := cell_heap HY.out 3
  simp only [List.getElem?_toArray, List.getElem?_cons_zero, List.getElem?_cons_succ] at a0 a1 a2 a3 b0 b1 b2 b3
  by_cases h1 : f.name = g.name
  · have h1' : (f.name.toList == g.name.toList) = true := by simpa using bytes_eq_iff.2 h1
    by_cases h2 : f.regs = g.regs
    · have h2' : (f.regs == g.regs) = true := by simpa using h2
      have HE : Hid (f = g ↔ f.arrays = g.arrays ∧ f.blocks = g.blocks) := by
        constructor
        · rintro rfl; exact ⟨rfl, rfl⟩
        · rintro ⟨h3, h4⟩
          cases f; cases g
          simp only at h1 h2 h3 h4
          rw [h1, h2, h3, h4]
      clear h1 h2
      go_enter Tryd.func16, Tryd.ntmps16
      go_wp2_with fail
      clear hW
      refine (eqArrs_any f.arrays g.arrays _ aa ga ac gc (HF.out.arrays.below HBW.out) (HG.out.arrays.below HBW.out)).mono ?_
      rintro e w1 ⟨⟨v, rfl, hv⟩, hB1⟩
      have HV := Lib.hid hv
      have HB1 := Lib.hid (HBW.out.trans (hB1.mono HBW.out.size))
      have a3' := ir_cell_below hB1 a3
      have b3' := ir_cell_below hB1 b3
      clear hv hB1 a0 a1 a2 a3 b0 b1 b2 b3
      cases v with
      | false =>
        have HN : Hid (¬ f = g) := fun e => by have := HV.out.2 (HE.out.1 e).1; cases this
        go_wp2_with fail
        go_ret
        exact eq_no HN.out HB1.out
      | true =>
        go_wp2_with fail
        refine (eqBlks_any f.blocks g.blocks _ ba ha bc hc (HF.out.blocks.below HB1.out) (HG.out.blocks.below HB1.out)).mono ?_
        rintro e w2 ⟨⟨v, rfl, hv2⟩, hB2⟩
        have HV2 := Lib.hid hv2
        have HB2 := Lib.hid (HB1.out.trans (hB2.mono HB1.out.size))
        clear hv2 hB2
        cases v
        all_goals
          go_wp2_with fail
          go_ret
          exact ⟨⟨_, rfl, by
            have h0 : f.arrays = g.arrays := by simpa using HV.out
            have := HV2.out.trans ⟨fun h => HE.out.2 ⟨h0, h⟩, fun h => (HE.out.1 h).2⟩
            simpa using this⟩, HB2.out⟩
    · have h2' : (f.regs == g.regs) = false := by simpa using h2
      have HE : Hid (¬ f = g) := by rintro rfl; exact h2 rfl
      clear h1 h2
      go_enter Tryd.func16, Tryd.ntmps16
      go_wp2_with fail
      go_ret
      exact eq_no HE.out HBW.out
  · have h1' : (f.name.toList == g.name.toList) = false := by
      cases hq : (f.name.toList == g.name.toList) with
      | false => rfl
      | true => exact absurd (bytes_eq_iff.1 (by simpa using hq)) h1
    have HE : Hid (¬ f = g) := by rintro rfl; exact h1 rfl
    clear h1
    go_enter Tryd.func16, Tryd.ntmps16
    go_wp2_with fail
    go_ret
    exact eq_no HE.out HBW.out
end
end Go.Proofs.YtkpdngfkdmllkaaDoor
