/-
  Mg40: several texts in one (LowFn2, Vld).
-/
import Derived.Test.YtkpdngfkdmllkaaDoorLowEmit
import Derived.Test.YtkpdngfkdmllkaaDoorMg10
import Derived.Test.YtkpdngfkdmllkaaDoorMg7
import Derived.Test.YtkpdngfkdmllkaaDoorMg6
import Derived.Test.YtkpdngfkdmllkaaDoorMg0
/-
  Contracts: the builder's functions on the block at the end (package lower): emit, constant, binary, store; lookups in its maps.
-/
namespace Go.Proofs.YtkpdngfkdmllkaaDoor
set_option linter.unusedVariables false
set_option linter.unusedSimpArgs false
open Go.RowKit Go.Maps
set_option maxRecDepth 100000
set_option maxHeartbeats 4000000

/-- the builder with code c in the block at the end, behind the blocks pre -/
abbrev BdC (B N : Nat) (m : BM) (E : LEnv) (w : World) (G : List Nat) (pre : List Blk) (c : List Ins) (R d : Nat) (V : VM) : Prop := BdAt B N m E w G (pre ++ [opnB c]) R d V
theorem zero_bool (w : World) : (zeroValue 4).run Tryd.prog w = .ok (.bool false) w := by kernel_rfl
theorem zero_int (w : World) : (zeroValue 3).run Tryd.prog w = .ok (.int .i64 0) w := by kernel_rfl
theorem ins_wf {op d x y imm : Int} {s : ByteArray} (h0 : 0 ≤ op ∧ op ≤ 255) (h1 : irI64 d) (h2 : irI64 x) (h3 : irI64 y) (h4 : irI64 imm) (h5 : s.size ≤ 9223372036854775807) : (insB op d x y imm s).Wf := ⟨h0.1, h0.2, h1, h2, h3, h4, h5⟩
theorem i64_nat {n : Nat} (h : n ≤ 1000000) : irI64 (n : Int) := by unfold irI64; omega
theorem i64_0 : irI64 0 := by unfold irI64; decide
theorem noB_size : noB.size ≤ 9223372036854775807 := by decide
section
variable {B N : Nat} {m : BM} {E : LEnv} {w : World} {G : List Nat} {pre : List Blk} {c : List Ins} {R d : Nat} {V : VM}
theorem BdAt.look_sh {bs : List Blk} (h : BdAt B N m E w G bs R d V) {s : ByteArray} (hs : s.size ≤ 9223372036854775807) : (Instr.lookup 70 (.map (some m.sb)) (.string s) false).run Tryd.prog w = .ok (.bool (E.sh s)) w := by
  have h1 := h.shs.1.run lKey Tryd.underlying70 (zero_bool w) (s := s) hs
  rw [h.shs.2] at h1
  exact h1
theorem BdAt.look_len {bs : List Blk} (h : BdAt B N m E w G bs R d V) {s : ByteArray} (hs : s.size ≤ 9223372036854775807) : (Instr.lookup 52 (.map (some m.lb)) (.string s) false).run Tryd.prog w = .ok (.int .i64 (E.len s)) w := by
  have h1 := h.lens.1.run lKey Tryd.underlying52 (zero_int w) (s := s) hs
  rw [h.lens.2] at h1
  exact h1
theorem BdAt.look_var {bs : List Blk} (h : BdAt B N m E w G bs R d V) {s : ByteArray} (hs : s.size ≤ 9223372036854775807) : (Instr.lookup 52 (.map (some m.vb)) (.string s) false).run Tryd.prog w = .ok (.int .i64 (V.reg s)) w := by
  have h1 := h.vars.run lKey Tryd.underlying52 (zero_int w) (s := s) hs
  have h2 : (varV V s).getD (.int .i64 0) = .int .i64 (V.reg s) := by
    unfold varV VM.reg
    cases V s <;> rfl
  rw [h2] at h1
  exact h1
theorem BdAt.var_le {bs : List Blk} (h : BdAt B N m E w G bs R d V) (s : ByteArray) : irI64 (V.reg s) := by
  unfold VM.reg
  cases hv : V s with
  | none => exact i64_0
  | some r =>
    have h1 := h.varN s r hv
    have h2 := h.small.1
    have h3 := h.cap
    exact i64_nat (n := r) (by omega)
theorem emit_cur (i : Ins) (h : BdC B N m E w G pre c R d V) (hi : i.Wf) (hN : N + 1 ≤ 1000000) :
    Calls Tryd.prog 68 #[ptrV m.bb, i.val] w fun e w' => e = .returned (.tuple #[]) ∧ BdC B (N + 1) m E w' G pre (c ++ [i]) R d V ∧ FrL B m w w' := by
  have hl : G.length = pre.length + 1 := by rw [BdAt.len h]; simp
  have hg : G[pre.length]? = some (G[pre.length]'(by omega)) := List.getElem?_eq_getElem _
  have hq : (pre ++ [opnB c])[pre.length]? = some (opnB c) := by rw [List.getElem?_append_right (Nat.le_refl _), Nat.sub_self]; rfl
  refine (emit_any i h hg hl hq hi hN).mono ?_
  rintro e w' ⟨h1, h2, h3⟩
  refine ⟨h1, ?_, h3⟩
  have e9 : (pre ++ [opnB c]).set pre.length { opnB c with code := (opnB c).code ++ [i] } = pre ++ [opnB (c ++ [i])] := by
    rw [List.set_append_right _ _ (Nat.le_refl _), Nat.sub_self]; rfl
  rw [e9] at h2
  exact h2
theorem constant_any (v : Int) (h : BdC B N m E w G pre c R d V) (hv : irI64 v) (hN : N + 2 ≤ 1000000) :
    Calls Tryd.prog 81 #[ptrV m.bb, .int .i64 v] w fun e w' => e = .returned (.int .i64 (R : Int)) ∧ BdC B (N + 2) m E w' G pre (c ++ [insB 1 R 0 0 v noB]) (R + 1) d V ∧ FrL B m w w' := by
  have H := Lib.hid h
  have hR := h.small.1
  have HR : Hid (R ≤ N) := hR
  have HV := Lib.hid hv
  clear h hv hR
  go_enter Tryd.func81, Tryd.ntmps81
  go_wp2_with fail
  refine (register_any H.out (by omega)).mono ?_
  rintro e w1 ⟨rfl, h1, hf1⟩
  have H1 := Lib.hid h1
  have HF1 := Lib.hid hf1
  clear h1 hf1
  go_wp2_with fail
  refine (emit_cur (insB 1 R 0 0 v noB) H1.out (ins_wf (by decide) (i64_nat (by have := HR.out; omega)) i64_0 i64_0 HV.out noB_size) (by omega)).mono ?_
  rintro e w2 ⟨rfl, h2, hf2⟩
  have H2 := Lib.hid h2
  have HF2 := Lib.hid (HF1.out.trans hf2)
  clear h2 hf2
  go_wp2_with fail
  go_ret
  exact ⟨rfl, H2.out, HF2.out⟩
theorem binary_any (k x y : Int) (h : BdC B N m E w G pre c R d V) (hk : 0 ≤ k ∧ k ≤ 255) (hx : irI64 x) (hy : irI64 y) (hN : N + 2 ≤ 1000000) :
    Calls Tryd.prog 82 #[ptrV m.bb, .int .u8 k, .int .i64 x, .int .i64 y] w fun e w' => e = .returned (.int .i64 (R : Int)) ∧ BdC B (N + 2) m E w' G pre (c ++ [insB 3 R x y k noB]) (R + 1) d V ∧ FrL B m w w' := by
  have H := Lib.hid h
  have hR := h.small.1
  have HR : Hid (R ≤ N) := hR
  have HV := Lib.hid (And.intro hx hy)
  have hwk : IntKind.i64.wrap k = k := by rw [IntKind.wrap_i64]; omega
  clear h hx hy hR
  go_enter Tryd.func82, Tryd.ntmps82
  go_wp2_with fail
  refine (register_any H.out (by omega)).mono ?_
  rintro e w1 ⟨rfl, h1, hf1⟩
  have H1 := Lib.hid h1
  have HF1 := Lib.hid hf1
  clear h1 hf1
  go_wp2_with fail
  refine (emit_cur (insB 3 R x y k noB) H1.out (ins_wf (by decide) (i64_nat (by have := HR.out; omega)) HV.out.1 HV.out.2 (by unfold irI64; omega) noB_size) (by omega)).mono ?_
  rintro e w2 ⟨rfl, h2, hf2⟩
  have H2 := Lib.hid h2
  have HF2 := Lib.hid (HF1.out.trans hf2)
  clear h2 hf2
  go_wp2_with fail
  go_ret
  exact ⟨rfl, H2.out, HF2.out⟩
theorem store_any (s : ByteArray) (i v : Int) (h : BdC B N m E w G pre c R d V) (hs : s.size ≤ 9223372036854775807) (hi : irI64 i) (hv : irI64 v) (hN : N + 1 ≤ 1000000) :
    Calls Tryd.prog 76 #[ptrV m.bb, .string s, .int .i64 i, .int .i64 v] w fun e w' => e = .returned (.tuple #[]) ∧ BdC B (N + 1) m E w' G pre (c ++ [stoB E s i v]) R d V ∧ FrL B m w w' := by
  have H := Lib.hid h
  have HV := Lib.hid (And.intro hi hv)
  obtain ⟨_, x1, _⟩ := h.cells
  have hlk := BdAt.look_sh h hs
  obtain ⟨b, hb⟩ : ∃ b, E.sh s = b := ⟨_, rfl⟩
  have HB : Hid (stoB E s i v = insB (if b then 7 else 5) 0 i v 0 s) := by show _ = _; unfold stoB; rw [hb]
  rw [hb] at hlk
  clear h hi hv hb
  cases b with
  | true =>
    go_enter Tryd.func76, Tryd.ntmps76
    go_wp2_with fail
    clear x1 hlk
    refine (emit_cur (insB 7 0 i v 0 s) H.out (ins_wf (by decide) i64_0 HV.out.1 HV.out.2 i64_0 hs) hN).mono ?_
    rintro e w2 ⟨rfl, h2, hf2⟩
    have H2 := Lib.hid h2
    have HF2 := Lib.hid hf2
    clear h2 hf2
    go_wp2_with fail
    go_end0
    exact ⟨rfl, by rw [HB.out]; exact H2.out, HF2.out⟩
  | false =>
    go_enter Tryd.func76, Tryd.ntmps76
    go_wp2_with fail
    clear x1 hlk
    refine (emit_cur (insB 5 0 i v 0 s) H.out (ins_wf (by decide) i64_0 HV.out.1 HV.out.2 i64_0 hs) hN).mono ?_
    rintro e w2 ⟨rfl, h2, hf2⟩
    have H2 := Lib.hid h2
    have HF2 := Lib.hid hf2
    clear h2 hf2
    go_wp2_with fail
    go_end0
    exact ⟨rfl, by rw [HB.out]; exact H2.out, HF2.out⟩
end
end Go.Proofs.YtkpdngfkdmllkaaDoor

/-
  The parts of valid statements and expressions; trees whose cells lie below a block.
-/
namespace Go.Proofs.YtkpdngfkdmllkaaDoor
set_option linter.unusedVariables false
set_option linter.unusedSimpArgs false
open Go.RowKit
set_option maxRecDepth 100000

abbrev ndObj (t : Tree) (a : Option Addr) (c : Nat) : Obj := .cells #[.int .u8 t.kind, .int .i64 t.num, .string t.name, .slice a t.len c] 35
theorem nd_cells {w : World} {b : Nat} {x0 x1 x2 x3 : Value} {T : TypeId} (h : w.heap[b]? = some (.cells #[x0, x1, x2, x3] T)) :
    w.cell? ⟨b, 0, none⟩ = some x0 ∧ w.cell? ⟨b, 1, none⟩ = some x1 ∧ w.cell? ⟨b, 2, none⟩ = some x2 ∧ w.cell? ⟨b, 3, none⟩ = some x3 :=
  ⟨mem_cell h 0, mem_cell h 1, mem_cell h 2, mem_cell h 3⟩
theorem kid_at {w : World} {t : Tree} {a : Option Addr} (h : Rep w t a) {i : Nat} (hi : i < t.len) : ∃ b off, a = some ⟨b, off, none⟩ ∧ ∃ ai ci, NodeAt w b (off + i * 4) (t.kid i) ai ci ∧ Rep w (t.kid i) ai := by
  rcases h.kids with h0 | ⟨b, off, ha, hk⟩
  · omega
  · exact ⟨b, off, ha, hk i hi⟩
/-- an expression's parts -/
theorem vldE {t : Tree} (h : t.vld 101 = true) : (1 ≤ t.kind ∧ t.kind ≤ 23) ∧ t.len = (Fm.kids t.kind).length ∧ (∀ i, i < t.len → (t.kid i).vld 101 = true) ∧ (t.kind = 1 → 0 ≤ t.num ∧ t.num ≤ 2147483647) := by
  rw [Tree.vld_eq, Bool.and_eq_true] at h
  obtain ⟨h1, h2⟩ := h
  have hk : 1 ≤ t.kind ∧ t.kind ≤ 23 := by
    unfold Fm.belongs at h1
    simpa using h1
  rw [if_neg (by omega)] at h2
  simp only [Bool.and_eq_true, decide_eq_true_eq] at h2
  obtain ⟨⟨⟨⟨h3, h4⟩, h5⟩, h6⟩, h7⟩ := h2
  refine ⟨hk, h5, fun i hi => ?_, fun h1 => ?_⟩
  · have h8 := Tree.allTo_iff.1 h7 i hi
    have h9 : ((Fm.kids t.kind).getD i 0).toNat = 101 := by
      have hi2 : i < (Fm.kids t.kind).length := by omega
      revert hi2
      unfold Fm.kids
      by_cases hc : t.kind = 1 ∨ t.kind = 2 ∨ t.kind = 3 ∨ t.kind = 4 ∨ t.kind = 5
      · rcases hc with e | e | e | e | e <;> rw [e]
        · intro h; exact absurd h (by show ¬ i < 0; omega)
        · intro h; exact absurd h (by show ¬ i < 0; omega)
        all_goals
          intro h
          have h : i < 1 := h
          obtain rfl : i = 0 := by omega
          rfl
      · rw [Fm.row_else t.kind (by omega)]
        intro h
        have h : i < 2 := h
        match i, h with
        | 0, _ => rfl
        | 1, _ => rfl
    rw [h9] at h8
    exact h8
  · have e1 : Fm.lo t.kind = 0 := by rw [h1]; rfl
    have e2 : Fm.hi t.kind = 2147483647 := by rw [h1]; rfl
    omega
/-- a statement's parts -/
theorem vldS {t : Tree} (h : t.vld 115 = true) : (40 ≤ t.kind ∧ t.kind < 47) ∧ (Fm.lo t.kind ≤ t.num ∧ t.num ≤ Fm.hi t.kind) ∧ t.len = (Fm.kids t.kind).length ∧ ∀ i, i < t.len → (t.kid i).vld (((Fm.kids t.kind).getD i 0).toNat) = true := by
  rw [Tree.vld_eq, Bool.and_eq_true] at h
  obtain ⟨h1, h2⟩ := h
  have hk : 40 ≤ t.kind ∧ t.kind < 47 := by
    unfold Fm.belongs at h1
    simpa using h1
  rw [if_neg (by omega)] at h2
  simp only [Bool.and_eq_true, decide_eq_true_eq] at h2
  obtain ⟨⟨⟨⟨h3, h4⟩, h5⟩, h6⟩, h7⟩ := h2
  exact ⟨hk, ⟨h3, h4⟩, h5, Tree.allTo_iff.1 h7⟩
theorem vldP {p : Tree} (h : p.vld 112 = true) : p.kind = 2 ∨ (p.kind = 3 ∧ p.len = 1 ∧ (p.kid 0).vld 101 = true) := by
  rw [Tree.vld_eq, Bool.and_eq_true] at h
  obtain ⟨h1, h2⟩ := h
  have hk : p.kind = 2 ∨ p.kind = 3 := by
    unfold Fm.belongs at h1
    simpa using h1
  rcases hk with hk | hk
  · exact .inl hk
  · rw [if_neg (by omega)] at h2
    simp only [Bool.and_eq_true, decide_eq_true_eq] at h2
    obtain ⟨⟨⟨⟨h3, h4⟩, h5⟩, h6⟩, h7⟩ := h2
    rw [hk] at h5 h7
    have h5 : p.len = 1 := h5
    exact .inr ⟨hk, h5, Tree.allTo_iff.1 h7 0 (by omega)⟩
theorem vldB {t : Tree} (h : t.vld 98 = true) : t.kind = 47 ∧ ∀ i, i < t.len → (t.kid i).vld 115 = true := by
  rw [Tree.vld_eq, Bool.and_eq_true] at h
  obtain ⟨h1, h2⟩ := h
  have hk : t.kind = 47 := by
    unfold Fm.belongs at h1
    simpa using h1
  rw [if_pos hk] at h2
  simp only [Bool.and_eq_true] at h2
  exact ⟨hk, Tree.allTo_iff.1 h2.2⟩
abbrev InB (B : Nat) (w : World) (t : Tree) (a : Option Addr) : Prop := RepIn (fun k => k < B) w t a
theorem InB.low {B : Nat} {w w' : World} {t : Tree} {a : Option Addr} (h : InB B w t a) (hB : Below B w w') : InB B w' t a := h.move (fun k hk _ => hB.block k hk) (fun _ hk _ => hk)
theorem kid_in {B : Nat} {w : World} {t : Tree} {a : Option Addr} (h : InB B w t a) {i : Nat} (hi : i < t.len) : ∃ b off, a = some ⟨b, off, none⟩ ∧ b < B ∧ ∃ ai ci, NodeAt w b (off + i * 4) (t.kid i) ai ci ∧ InB B w (t.kid i) ai := by
  rcases h.kids with h0 | ⟨b, off, ha, hb, hk⟩
  · omega
  · exact ⟨b, off, ha, hb, hk i hi⟩
end Go.Proofs.YtkpdngfkdmllkaaDoor
