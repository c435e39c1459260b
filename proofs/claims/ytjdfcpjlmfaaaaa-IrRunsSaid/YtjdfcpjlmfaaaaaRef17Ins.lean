/-
  Contract: ValidIns (package ontimeref17).
-/
import Derived.Test.YtjdfcpjlmfaaaaaIrArr
import Derived.Test.YtjdfcpjlmfaaaaaIrEnd
import Derived.Test.YtjdfcpjlmfaaaaaRef17Uses
import Derived.Deep.QuietTactic
import Derived.BigQuiet
namespace Go.Proofs.Ytjdfcpjlmfaaaaa
set_option linter.unusedVariables false
set_option linter.unusedSimpArgs false
open Go.RowKit
set_option maxRecDepth 100000

/-- the symbol of an instruction, by the reference -/
def symOk (arrays shared : List (ByteArray × Int)) (i : Ins) : Bool :=
  bif (i.op == 4) || (i.op == 5) then decide (0 ≤ idx arrays i.sym)
  else bif (i.op == 6) || (i.op == 7) || (i.op == 11) || (i.op == 12) then decide (0 ≤ idx shared i.sym)
  else i.sym.toList.isEmpty
def regsOf (regs : Int) (i : Ins) : Int := bif i.op == 16 then 4 else regs
/-- whether an instruction is valid, by the reference -/
def refInsOk (regs : Int) (arrays shared : List (ByteArray × Int)) (i : Ins) : Bool :=
  !(shapeOf i.op).toList.isEmpty && immOk i.op i.imm && regOk (hasB (shapeOf i.op) 100 (shapeOf i.op).size) i.dst regs && regOk (hasB (shapeOf i.op) 120 (shapeOf i.op).size) i.x (regsOf regs i) && regOk (hasB (shapeOf i.op) 121 (shapeOf i.op).size) i.y regs && symOk arrays shared i

set_option maxHeartbeats 8000000 in
theorem refValidIns_any (name : ByteArray) (regs : Int) (aa ba sa : Option Addr) (ac bn bc sc : Nat) (arrays shared : List (ByteArray × Int)) (i : Ins) (w : World) (h0 : 0 ≤ i.op) (h1 : i.op ≤ 255) (ha : ArrsAt w aa arrays) (hs : ArrsAt w sa shared) :
    Calls Try.prog 36 #[fnVal name regs aa arrays.length ac ba bn bc, .slice sa shared.length sc, i.val] w fun e w' => e = .returned (.bool (refInsOk regs arrays shared i)) ∧ Below w.heap.size w w' := by
  have HA := Lib.hid ha
  have HS := Lib.hid hs
  have hsz := shape_size i.op
  clear ha hs
  unfold Ins.val
  go_enter Try.func36, Try.ntmps36
  go_wp2_with fail
  refine (shape_any i.op _ h0 h1).mono ?_
  rintro e w1 ⟨rfl, hB1⟩
  have HB1 := Lib.hid ((((Below.refl w.heap.size w).alloc (Nat.le_refl _) (.cells #[.string name, .int .i64 regs, .slice aa arrays.length ac, .slice ba bn bc] 32)).alloc (by simp) (.cells #[.int .u8 i.op, .int .i64 i.dst, .int .i64 i.x, .int .i64 i.y, .int .i64 i.imm, .string i.sym] 77)).trans (hB1.mono (by simp; omega)))
  have hzw : w.heap.size + 1 < w1.heap.size := by have := hB1.size; simp at this; omega
  have old : ∀ b o : Nat, b < w.heap.size + 2 → w1.cell? ⟨b, o, none⟩ = (((w.alloc (.cells #[.string name, .int .i64 regs, .slice aa arrays.length ac, .slice ba bn bc] 32)).alloc (.cells #[.int .u8 i.op, .int .i64 i.dst, .int .i64 i.x, .int .i64 i.y, .int .i64 i.imm, .string i.sym] 77)) : World).cell? ⟨b, o, none⟩ := fun b o hb => hB1.cell (p := ⟨b, o, none⟩) (by simp; omega)
  have f1 : w1.cell? ⟨w.heap.size, 1, none⟩ = some (.int .i64 regs) := (old _ _ (by omega)).trans (by simp [World.cell?_alloc_lt])
  have f2 : w1.cell? ⟨w.heap.size, 2, none⟩ = some (.slice aa arrays.length ac) := (old _ _ (by omega)).trans (by simp [World.cell?_alloc_lt])
  have c0 : w1.cell? ⟨w.heap.size + 1, 0, none⟩ = some (.int .u8 i.op) := (old _ _ (by omega)).trans (by simp)
  have c1 : w1.cell? ⟨w.heap.size + 1, 1, none⟩ = some (.int .i64 i.dst) := (old _ _ (by omega)).trans (by simp)
  have c2 : w1.cell? ⟨w.heap.size + 1, 2, none⟩ = some (.int .i64 i.x) := (old _ _ (by omega)).trans (by simp)
  have c3 : w1.cell? ⟨w.heap.size + 1, 3, none⟩ = some (.int .i64 i.y) := (old _ _ (by omega)).trans (by simp)
  have c4 : w1.cell? ⟨w.heap.size + 1, 4, none⟩ = some (.int .i64 i.imm) := (old _ _ (by omega)).trans (by simp)
  have c5 : w1.cell? ⟨w.heap.size + 1, 5, none⟩ = some (.string i.sym) := (old _ _ (by omega)).trans (by simp)
  clear hB1 old
  obtain ⟨sh, hsh⟩ : ∃ sh, shapeOf i.op = sh := ⟨_, rfl⟩
  rw [hsh]
  have HSH := Lib.hid hsh
  rw [hsh] at hsz
  clear hsh
  by_cases he : sh.toList.isEmpty = true
  · have HR : Hid (refInsOk regs arrays shared i = false) := by show _ = _; unfold refInsOk; rw [HSH.out, he]; rfl
    have he2 : sh.toList = [] := by simpa using he
    go_wp2_with fail
    go_ret
    exact ⟨by rw [HR.out]; rfl, HB1.out⟩
  · have he1 : sh.toList.isEmpty = false := by simpa using he
    have he2 : (!sh.toList.isEmpty) = true := by simp [he1]
    have HE := Lib.hid he1
    clear he
    go_wp2_with fail
    refine (immediate_any i.op i.imm _).mono ?_
    rintro e w2 ⟨hv, rfl⟩
    cases hbi : immOk i.op i.imm with
    | false =>
      have HR : Hid (refInsOk regs arrays shared i = false) := by show _ = _; unfold refInsOk; rw [hbi]; simp
      rw [hbi] at hv
      subst hv
      clear hbi
      go_wp2_with fail
      go_ret
      exact ⟨by rw [HR.out]; rfl, HB1.out⟩
    | true =>
      rw [hbi] at hv
      subst hv
      have HI := Lib.hid hbi
      clear hbi
      by_cases h16 : (i.op == 16) = true
      · have HRG : Hid (regsOf regs i = 4) := by show _ = _; unfold regsOf; rw [h16]; rfl
        obtain ⟨d0, hd0⟩ : ∃ b, hasB sh 100 sh.size = b := ⟨_, rfl⟩
        obtain ⟨x0, hx0⟩ : ∃ b, hasB sh 120 sh.size = b := ⟨_, rfl⟩
        obtain ⟨y0, hy0⟩ : ∃ b, hasB sh 121 sh.size = b := ⟨_, rfl⟩
        obtain ⟨rd, hrd⟩ : ∃ b, regOk d0 i.dst regs = b := ⟨_, rfl⟩
        obtain ⟨rx, hrx⟩ : ∃ b, regOk x0 i.x 4 = b := ⟨_, rfl⟩
        obtain ⟨ry, hry⟩ : ∃ b, regOk y0 i.y regs = b := ⟨_, rfl⟩
        have HR : Hid (refInsOk regs arrays shared i = (rd && rx && ry && symOk arrays shared i)) := by
          show _ = _
          unfold refInsOk
          rw [HSH.out, HE.out, HI.out, hd0, hx0, hy0, HRG.out, hrd, hrx, hry]
          simp
        have QD : Hid (∀ W n, Calls Try.prog 46 #[.string sh, .int .u8 100] (World.drewN W n) (fun e w'' => e = .returned (.bool d0) ∧ ∃ m, w'' = W.drewN m)) := fun W n => (has_any sh 100 _ (by omega)).mono fun e w'' ⟨h1, h2⟩ => ⟨by rw [h1, hd0], n, h2.symm⟩
        have QX : Hid (∀ W n, Calls Try.prog 46 #[.string sh, .int .u8 120] (World.drewN W n) (fun e w'' => e = .returned (.bool x0) ∧ ∃ m, w'' = W.drewN m)) := fun W n => (has_any sh 120 _ (by omega)).mono fun e w'' ⟨h1, h2⟩ => ⟨by rw [h1, hx0], n, h2.symm⟩
        have QY : Hid (∀ W n, Calls Try.prog 46 #[.string sh, .int .u8 121] (World.drewN W n) (fun e w'' => e = .returned (.bool y0) ∧ ∃ m, w'' = W.drewN m)) := fun W n => (has_any sh 121 _ (by omega)).mono fun e w'' ⟨h1, h2⟩ => ⟨by rw [h1, hy0], n, h2.symm⟩
        have RD : Hid (∀ W n, Calls Try.prog 52 #[.bool d0, .int .i64 i.dst, .int .i64 regs] (World.drewN W n) (fun e w'' => e = .returned (.bool rd) ∧ ∃ m, w'' = W.drewN m)) := fun W n => (register_any d0 i.dst regs _).mono fun e w'' ⟨h1, h2⟩ => ⟨by rw [h1, hrd], n, h2.symm⟩
        have RX : Hid (∀ W n, Calls Try.prog 52 #[.bool x0, .int .i64 i.x, .int .i64 4] (World.drewN W n) (fun e w'' => e = .returned (.bool rx) ∧ ∃ m, w'' = W.drewN m)) := fun W n => (register_any x0 i.x 4 _).mono fun e w'' ⟨h1, h2⟩ => ⟨by rw [h1, hrx], n, h2.symm⟩
        have RY : Hid (∀ W n, Calls Try.prog 52 #[.bool y0, .int .i64 i.y, .int .i64 regs] (World.drewN W n) (fun e w'' => e = .returned (.bool ry) ∧ ∃ m, w'' = W.drewN m)) := fun W n => (register_any y0 i.y regs _).mono fun e w'' ⟨h1, h2⟩ => ⟨by rw [h1, hry], n, h2.symm⟩
        clear hd0 hx0 hy0 hrd hrx hry
        go_wp2_with fail
        cases rd <;> cases rx <;> cases ry
        all_goals
          go_quiet (first | (go_at_call 46; with_reducible exact QD.out _ _) | (go_at_call 46; with_reducible exact QX.out _ _) | (go_at_call 46; with_reducible exact QY.out _ _) | (go_at_call 52; with_reducible exact RD.out _ _) | (go_at_call 52; with_reducible exact RX.out _ _) | (go_at_call 52; with_reducible exact RY.out _ _))
        iterate 7
          · go_wp2_with fail
            go_ret
            exact ⟨by rw [HR.out]; rfl, ⟨HB1.out.os, HB1.out.tape, HB1.out.output, HB1.out.size, HB1.out.block⟩⟩
        generalize hwq : World.drewN _ _ = wq
        have HBQ : Hid (Below w.heap.size w wq) := by rw [← hwq]; exact ⟨HB1.out.os, HB1.out.tape, HB1.out.output, HB1.out.size, HB1.out.block⟩
        have e0 : wq.cell? ⟨w.heap.size + 1, 0, none⟩ = some (.int .u8 i.op) := by rw [← hwq]; exact c0
        have e5 : wq.cell? ⟨w.heap.size + 1, 5, none⟩ = some (.string i.sym) := by rw [← hwq]; exact c5
        have e2 : wq.cell? ⟨w.heap.size, 2, none⟩ = some (.slice aa arrays.length ac) := by rw [← hwq]; exact f2
        clear hwq c0 c1 c2 c3 c4 c5 f1 f2 h16
        have HR2 : Hid (refInsOk regs arrays shared i = symOk arrays shared i) := by show _ = _; rw [HR.out]; rfl
        go_wp2_with (first
          | (go_at_call 35; with_reducible refine (index_any arrays aa ac i.sym _ (HA.out.below HBQ.out)).mono ?_; rintro e w' ⟨rfl, rfl⟩)
          | (go_at_call 35; with_reducible refine (index_any shared sa sc i.sym _ (HS.out.below HBQ.out)).mono ?_; rintro e w' ⟨rfl, rfl⟩))
        all_goals
          go_ret
          exact ⟨ret_bool (by rw [HR2.out]; simp [symOk, *]), HBQ.out⟩
      · have h17 : (i.op == 16) = false := by simpa using h16
        have HRG : Hid (regsOf regs i = regs) := by show _ = _; unfold regsOf; rw [h17]; rfl
        clear h16
        obtain ⟨d0, hd0⟩ : ∃ b, hasB sh 100 sh.size = b := ⟨_, rfl⟩
        obtain ⟨x0, hx0⟩ : ∃ b, hasB sh 120 sh.size = b := ⟨_, rfl⟩
        obtain ⟨y0, hy0⟩ : ∃ b, hasB sh 121 sh.size = b := ⟨_, rfl⟩
        obtain ⟨rd, hrd⟩ : ∃ b, regOk d0 i.dst regs = b := ⟨_, rfl⟩
        obtain ⟨rx, hrx⟩ : ∃ b, regOk x0 i.x regs = b := ⟨_, rfl⟩
        obtain ⟨ry, hry⟩ : ∃ b, regOk y0 i.y regs = b := ⟨_, rfl⟩
        have HR : Hid (refInsOk regs arrays shared i = (rd && rx && ry && symOk arrays shared i)) := by
          show _ = _
          unfold refInsOk
          rw [HSH.out, HE.out, HI.out, hd0, hx0, hy0, HRG.out, hrd, hrx, hry]
          simp
        have QD : Hid (∀ W n, Calls Try.prog 46 #[.string sh, .int .u8 100] (World.drewN W n) (fun e w'' => e = .returned (.bool d0) ∧ ∃ m, w'' = W.drewN m)) := fun W n => (has_any sh 100 _ (by omega)).mono fun e w'' ⟨h1, h2⟩ => ⟨by rw [h1, hd0], n, h2.symm⟩
        have QX : Hid (∀ W n, Calls Try.prog 46 #[.string sh, .int .u8 120] (World.drewN W n) (fun e w'' => e = .returned (.bool x0) ∧ ∃ m, w'' = W.drewN m)) := fun W n => (has_any sh 120 _ (by omega)).mono fun e w'' ⟨h1, h2⟩ => ⟨by rw [h1, hx0], n, h2.symm⟩
        have QY : Hid (∀ W n, Calls Try.prog 46 #[.string sh, .int .u8 121] (World.drewN W n) (fun e w'' => e = .returned (.bool y0) ∧ ∃ m, w'' = W.drewN m)) := fun W n => (has_any sh 121 _ (by omega)).mono fun e w'' ⟨h1, h2⟩ => ⟨by rw [h1, hy0], n, h2.symm⟩
        have RD : Hid (∀ W n, Calls Try.prog 52 #[.bool d0, .int .i64 i.dst, .int .i64 regs] (World.drewN W n) (fun e w'' => e = .returned (.bool rd) ∧ ∃ m, w'' = W.drewN m)) := fun W n => (register_any d0 i.dst regs _).mono fun e w'' ⟨h1, h2⟩ => ⟨by rw [h1, hrd], n, h2.symm⟩
        have RX : Hid (∀ W n, Calls Try.prog 52 #[.bool x0, .int .i64 i.x, .int .i64 regs] (World.drewN W n) (fun e w'' => e = .returned (.bool rx) ∧ ∃ m, w'' = W.drewN m)) := fun W n => (register_any x0 i.x regs _).mono fun e w'' ⟨h1, h2⟩ => ⟨by rw [h1, hrx], n, h2.symm⟩
        have RY : Hid (∀ W n, Calls Try.prog 52 #[.bool y0, .int .i64 i.y, .int .i64 regs] (World.drewN W n) (fun e w'' => e = .returned (.bool ry) ∧ ∃ m, w'' = W.drewN m)) := fun W n => (register_any y0 i.y regs _).mono fun e w'' ⟨h1, h2⟩ => ⟨by rw [h1, hry], n, h2.symm⟩
        clear hd0 hx0 hy0 hrd hrx hry
        go_wp2_with fail
        cases rd <;> cases rx <;> cases ry
        all_goals
          go_quiet (first | (go_at_call 46; with_reducible exact QD.out _ _) | (go_at_call 46; with_reducible exact QX.out _ _) | (go_at_call 46; with_reducible exact QY.out _ _) | (go_at_call 52; with_reducible exact RD.out _ _) | (go_at_call 52; with_reducible exact RX.out _ _) | (go_at_call 52; with_reducible exact RY.out _ _))
        iterate 7
          · go_wp2_with fail
            go_ret
            exact ⟨by rw [HR.out]; rfl, ⟨HB1.out.os, HB1.out.tape, HB1.out.output, HB1.out.size, HB1.out.block⟩⟩
        generalize hwq : World.drewN _ _ = wq
        have HBQ : Hid (Below w.heap.size w wq) := by rw [← hwq]; exact ⟨HB1.out.os, HB1.out.tape, HB1.out.output, HB1.out.size, HB1.out.block⟩
        have e0 : wq.cell? ⟨w.heap.size + 1, 0, none⟩ = some (.int .u8 i.op) := by rw [← hwq]; exact c0
        have e5 : wq.cell? ⟨w.heap.size + 1, 5, none⟩ = some (.string i.sym) := by rw [← hwq]; exact c5
        have e2 : wq.cell? ⟨w.heap.size, 2, none⟩ = some (.slice aa arrays.length ac) := by rw [← hwq]; exact f2
        clear hwq c0 c1 c2 c3 c4 c5 f1 f2 h17
        have HR2 : Hid (refInsOk regs arrays shared i = symOk arrays shared i) := by show _ = _; rw [HR.out]; rfl
        go_wp2_with (first
          | (go_at_call 35; with_reducible refine (index_any arrays aa ac i.sym _ (HA.out.below HBQ.out)).mono ?_; rintro e w' ⟨rfl, rfl⟩)
          | (go_at_call 35; with_reducible refine (index_any shared sa sc i.sym _ (HS.out.below HBQ.out)).mono ?_; rintro e w' ⟨rfl, rfl⟩))
        all_goals
          go_ret
          exact ⟨ret_bool (by rw [HR2.out]; simp [symOk, *]), HBQ.out⟩
end Go.Proofs.Ytjdfcpjlmfaaaaa
