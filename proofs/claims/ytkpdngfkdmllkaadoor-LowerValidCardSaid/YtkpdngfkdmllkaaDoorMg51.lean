/-
  Mg51: several texts in one (LowTrans, LowLocksP, LowTgtP, LowVldP, LowVldQ, LowVldR, LowLawV, TreeOpen).
-/
import Derived.Test.YtkpdngfkdmllkaaDoorMg50
import Derived.Test.YtkpdngfkdmllkaaDoorMg36
import Derived.Test.YtkpdngfkdmllkaaDoorMg40
import Derived.Test.YtkpdngfkdmllkaaDoorMg22
import Derived.Test.YtkpdngfkdmllkaaDoorIrValid
import Derived.Test.YtkpdngfkdmllkaaDoorMg49
import Derived.WalkLawsBesides
import Derived.Laws.StructEq
import Derived.Test.YtkpdngfkdmllkaaDoorRows
import Derived.Test.YtkpdngfkdmllkaaDoorMg5
import Derived.Test.YtkpdngfkdmllkaaDoorMg0
import Derived.ProofKit
import Derived.OpenShut
import Derived.Lib.SmallJoins
import Derived.WideKeyArgs
/-
  Contract: translated (package ontimelaw18).
-/
namespace Go.Proofs.YtkpdngfkdmllkaaDoor
set_option linter.unusedVariables false
set_option linter.unusedSimpArgs false
open Go.RowKit Go.Maps
set_option maxRecDepth 100000
set_option maxHeartbeats 8000000

/-- what translated answers -/
def TransRet (p : Prg) (k : Int) (w : World) (e : Ending) (w' : World) : Prop := ∃ F b aa ac ba bc, e = .returned (.tuple #[fnVal F.name F.regs aa F.arrays.length ac ba F.blocks.length bc, .bool b]) ∧ FnNew w.heap.size w' F aa ba ∧ Below w.heap.size w w' ∧
  (b = true → okP p = true ∧ (0 ≤ k ∧ k < p.tasks.length) ∧ F = lowFn p.shared (p.tasks.getD k.toNat Tsk.none))
theorem TransRet.no {p : Prg} {k : Int} {w w' : World} (h : Below w.heap.size w w') : TransRet p k w (.returned (.tuple #[fnVal ⟨#[]⟩ 0 none 0 0 none 0 0, .bool false])) w' :=
  ⟨Fn.zero, false, none, 0, none, 0, rfl, Fn.zero_at _ _, h, fun h => nomatch h⟩
theorem translated_fn (p : Prg) (k : Int) (w : World) (sa ta : Option Addr) (sc tc : Nat) (hp : PrgAt w p sa ta) (hg : SignsIn w) (hk : isI64 k) :
    Calls Tryd.prog 9 #[p.val sa sc ta tc, .int .i64 k] w (TransRet p k w) := by
  have htl := hp.2.1
  have HKK := Lib.hid hk
  have hk1 := hk.1
  have hk2 := hk.2
  obtain ⟨A0, h0⟩ : ∃ A0 : World, w.alloc (prgObj p sa sc ta tc) = A0 := ⟨_, rfl⟩
  obtain ⟨A1, h1⟩ : ∃ A1 : World, A0.alloc (fnObj ⟨#[]⟩ 0 (.slice none 0 0) (.slice none 0 0)) = A1 := ⟨_, rfl⟩
  have HB0 : Hid (Below w.heap.size w A0) := by show Below _ _ _; rw [← h0]; exact mem_alloc _ _
  have HB1 : Hid (Below A0.heap.size A0 A1) := by show Below _ _ _; rw [← h1]; exact mem_alloc _ _
  have HX0 : Hid (A0.heap[w.heap.size]? = some (prgObj p sa sc ta tc)) := by show _ = _; rw [← h0]; exact mem_new _ _
  have HX1 : Hid (A1.heap[A0.heap.size]? = some (fnObj ⟨#[]⟩ 0 (.slice none 0 0) (.slice none 0 0))) := by show _ = _; rw [← h1]; exact mem_new _ _
  have HBW := Lib.hid (mem_then HB0.out HB1.out)
  have HZ : Hid (A0.heap.size = w.heap.size + 1) := by show _ = _; rw [← h0]; simp
  have HK : Hid (∀ w', Below A1.heap.size A1 w' → w'.heap[w.heap.size]? = some (prgObj p sa sc ta tc) ∧ w'.heap[A0.heap.size]? = some (fnObj ⟨#[]⟩ 0 (.slice none 0 0) (.slice none 0 0)) ∧ PrgAt w' p sa ta ∧ Below w.heap.size w w' ∧ SignsIn w') := fun w' h =>
    ⟨mem_keep (mem_keep HX0.out HB1.out) h, mem_keep HX1.out h, hp.below (mem_then HBW.out h), mem_then HBW.out h, hg.below (mem_then HBW.out h)⟩
  -- a way out with the zero function
  have HZF : Hid (∀ w', Below A1.heap.size A1 w' → Below w.heap.size w (put4 w' A0.heap.size (.string ⟨#[]⟩) (.int .i64 0) (.slice none 0 0) (.slice none 0 0)) ∧ (put4 w' A0.heap.size (.string ⟨#[]⟩) (.int .i64 0) (.slice none 0 0) (.slice none 0 0)).heap[A0.heap.size]? = some (fnObj ⟨#[]⟩ 0 (.slice none 0 0) (.slice none 0 0))) := fun w' h =>
    ⟨put4_below (HK.out w' h).2.2.2.1 (by have := HZ.out; omega), put4_at (HK.out w' h).2.1⟩
  have y0 : A1.cell? ⟨w.heap.size, 0, none⟩ = some (.slice sa p.shared.length sc) := mem_cell (HK.out A1 (Below.refl _ _)).1 0
  have y1 : A1.cell? ⟨w.heap.size, 1, none⟩ = some (.slice ta p.tasks.length tc) := mem_cell (HK.out A1 (Below.refl _ _)).1 1
  clear hp hg hk
  go_enter Tryd.func9, Tryd.ntmps9
  go_wp2_with fail
  clear y0 y1 h0 h1
  refine (smallProg_any p A1 sa ta sc tc (HK.out A1 (Below.refl _ _)).2.2.1).mono ?_
  rintro e w1 ⟨⟨b1, rfl⟩, hB1⟩
  have HB1' := Lib.hid hB1
  have y0 : w1.cell? ⟨w.heap.size, 0, none⟩ = some (.slice sa p.shared.length sc) := mem_cell (HK.out w1 hB1).1 0
  have y1 : w1.cell? ⟨w.heap.size, 1, none⟩ = some (.slice ta p.tasks.length tc) := mem_cell (HK.out w1 hB1).1 1
  clear hB1
  have HOUT : Hid (∀ w', Below A1.heap.size A1 w' → ∃ X : World, put4 w' A0.heap.size (.string ⟨#[]⟩) (.int .i64 0) (.slice none 0 0) (.slice none 0 0) = X ∧ (Below w.heap.size w X ∧ X.heap[A0.heap.size]? = some (fnObj ⟨#[]⟩ 0 (.slice none 0 0) (.slice none 0 0)))) := fun w' h => ⟨_, rfl, HZF.out w' h⟩
  cases b1 with
  | false =>
    obtain ⟨c0, c1, c2, c3, cf⟩ := fn_four (HK.out w1 HB1'.out).2.1
    obtain ⟨WE, hWE, hz⟩ := HOUT.out w1 HB1'.out
    have HZ1 := Lib.hid hz
    unfold put4 at hWE
    clear hz
    go_wp2_with fail
    clear c0 c1 c2 c3 cf hWE
    obtain ⟨r0, r1, r2, r3, _⟩ := fn_four HZ1.out.2
    exact bodyPost_ret (v := .tuple #[fnVal ⟨#[]⟩ 0 none 0 0 none 0 0, .bool false]) (by simp [results, Tryd.results9, go_sem, r0, r1, r2, r3]) rfl (TransRet.no HZ1.out.1)
  | true =>
  go_wp2_with fail
  clear y0 y1
  refine (ok15_any p w1 sa ta sc tc (HK.out w1 HB1'.out).2.2.1 (HK.out w1 HB1'.out).2.2.2.2).mono ?_
  rintro e w2 ⟨rfl, hB2⟩
  have HB2 := Lib.hid (mem_then HB1'.out hB2)
  have y0 : w2.cell? ⟨w.heap.size, 0, none⟩ = some (.slice sa p.shared.length sc) := mem_cell (HK.out w2 HB2.out).1 0
  have y1 : w2.cell? ⟨w.heap.size, 1, none⟩ = some (.slice ta p.tasks.length tc) := mem_cell (HK.out w2 HB2.out).1 1
  obtain ⟨ok, hok⟩ : ∃ b, okP p = b := ⟨_, rfl⟩
  have HOK := Lib.hid hok
  rw [hok]
  clear hB2 hok
  cases ok with
  | false =>
    obtain ⟨c0, c1, c2, c3, cf⟩ := fn_four (HK.out w2 HB2.out).2.1
    obtain ⟨WE, hWE, hz⟩ := HOUT.out w2 HB2.out
    have HZ1 := Lib.hid hz
    unfold put4 at hWE
    clear hz
    go_wp2_with fail
    clear c0 c1 c2 c3 cf hWE
    obtain ⟨r0, r1, r2, r3, _⟩ := fn_four HZ1.out.2
    exact bodyPost_ret (v := .tuple #[fnVal ⟨#[]⟩ 0 none 0 0 none 0 0, .bool false]) (by simp [results, Tryd.results9, go_sem, r0, r1, r2, r3]) rfl (TransRet.no HZ1.out.1)
  | true =>
  by_cases h0 : k < 0
  · have h0d : decide (k < 0) = true := by simpa using h0
    obtain ⟨c0, c1, c2, c3, cf⟩ := fn_four (HK.out w2 HB2.out).2.1
    obtain ⟨WE, hWE, hz⟩ := HOUT.out w2 HB2.out
    have HZ1 := Lib.hid hz
    unfold put4 at hWE
    clear hz
    go_wp2_with fail
    clear c0 c1 c2 c3 cf hWE
    obtain ⟨r0, r1, r2, r3, _⟩ := fn_four HZ1.out.2
    exact bodyPost_ret (v := .tuple #[fnVal ⟨#[]⟩ 0 none 0 0 none 0 0, .bool false]) (by simp [results, Tryd.results9, go_sem, r0, r1, r2, r3]) rfl (TransRet.no HZ1.out.1)
  have h0d : decide (k < 0) = false := by simpa using h0
  by_cases h1 : (p.tasks.length : Int) ≤ k
  · have h1d : decide ((p.tasks.length : Int) ≤ k) = true := by simpa using h1
    obtain ⟨c0, c1, c2, c3, cf⟩ := fn_four (HK.out w2 HB2.out).2.1
    obtain ⟨WE, hWE, hz⟩ := HOUT.out w2 HB2.out
    have HZ1 := Lib.hid hz
    unfold put4 at hWE
    clear hz
    go_wp2_with fail
    clear c0 c1 c2 c3 cf hWE
    obtain ⟨r0, r1, r2, r3, _⟩ := fn_four HZ1.out.2
    exact bodyPost_ret (v := .tuple #[fnVal ⟨#[]⟩ 0 none 0 0 none 0 0, .bool false]) (by simp [results, Tryd.results9, go_sem, r0, r1, r2, r3]) rfl (TransRet.no HZ1.out.1)
  have h1d : decide ((p.tasks.length : Int) ≤ k) = false := by simpa using h1
  have HKB : Hid (0 ≤ k ∧ k < p.tasks.length) := ⟨by omega, by omega⟩
  have HR : Hid (taskR p k = (lowFn p.shared (p.tasks.getD k.toNat Tsk.none), 0)) := by
    show _ = _; unfold taskR; rw [if_neg (by rw [HOK.out]; simp), if_neg (by omega)]
  clear h0 h1
  have hT := task_any p k w2 sa ta sc tc (HK.out w2 HB2.out).2.2.1 (HK.out w2 HB2.out).2.2.2.2 HKK.out
  rw [HR.out] at hT
  obtain ⟨F, hF⟩ : ∃ F, lowFn p.shared (p.tasks.getD k.toNat Tsk.none) = F := ⟨_, rfl⟩
  have HF := Lib.hid hF
  rw [hF] at hT
  have HT := Lib.hid hT
  clear hT hF
  go_wp2_with fail
  clear y0 y1
  refine HT.out.mono ?_
  rintro e w3 ⟨aa, ac, ba, bc, rfl, hfn, hB3⟩
  have HFN := Lib.hid hfn
  have HB3 := Lib.hid (mem_then HB2.out hB3)
  clear hfn hB3 HT
  obtain ⟨an, hn1⟩ : ∃ n, F.arrays.length = n := ⟨_, rfl⟩
  obtain ⟨bn, hn2⟩ : ∃ n, F.blocks.length = n := ⟨_, rfl⟩
  have HNN : Hid (F.arrays.length = an ∧ F.blocks.length = bn) := ⟨hn1, hn2⟩
  simp only [hn1, hn2]
  obtain ⟨V, hV⟩ : ∃ X : World, w3.alloc (fnObj F.name F.regs (.slice aa an ac) (.slice ba bn bc)) = X := ⟨_, rfl⟩
  have HV0 : Hid (Below w3.heap.size w3 V) := by show Below _ _ _; rw [← hV]; exact mem_alloc _ _
  have HVX : Hid (V.heap[w3.heap.size]? = some (fnObj F.name F.regs (.slice aa an ac) (.slice ba bn bc))) := by show _ = _; rw [← hV]; exact mem_new _ _
  have HV := Lib.hid (mem_then HB3.out HV0.out)
  obtain ⟨v0, v1, v2, v3, _⟩ := fn_four HVX.out
  obtain ⟨c0, c1, c2, c3, cf⟩ := fn_four (HK.out V HV.out).2.1
  obtain ⟨WE, hWE⟩ : ∃ X : World, put4 V A0.heap.size (.string F.name) (.int .i64 F.regs) (.slice aa an ac) (.slice ba bn bc) = X := ⟨_, rfl⟩
  have HEX : Hid (WE.heap[A0.heap.size]? = some (fnObj F.name F.regs (.slice aa an ac) (.slice ba bn bc))) := by show _ = _; rw [← hWE]; exact put4_at (HK.out V HV.out).2.1
  have HAE : Hid (FnNew w.heap.size WE F aa ba) := by
    refine (FnNew.move HFN.out (by rw [← hWE]; unfold put4; simp; exact HV0.out.size) (fun k h1 h2 => ?_)).mono (by have := HB2.out.size; have := HBW.out.size; omega)
    rw [← hWE]
    exact (put4_far (by have h3 := mem_lt (HK.out w2 HB2.out).2.1; omega)).trans (HV0.out.block k h2)
  have HBE : Hid (Below w.heap.size w WE) := by show Below _ _ _; rw [← hWE]; exact put4_below (HK.out V HV.out).2.2.2.1 (by have := HZ.out; omega)
  unfold put4 at hWE
  clear hn1 hn2
  go_wp2_with fail
  clear c0 c1 c2 c3 cf hWE hV v0 v1 v2 v3
  obtain ⟨r0, r1, r2, r3, _⟩ := fn_four HEX.out
  exact bodyPost_ret (v := .tuple #[fnVal F.name F.regs aa an ac ba bn bc, .bool true]) (by simp [results, Tryd.results9, go_sem, r0, r1, r2, r3]) rfl ⟨F, true, aa, ac, ba, bc, by rw [HNN.out.1, HNN.out.2], HAE.out, HBE.out, fun _ => ⟨HOK.out, HKB.out, HF.out.symm⟩⟩
end Go.Proofs.YtkpdngfkdmllkaaDoor

/-
  Plain law of LowerLocks: one instruction to lock and one to unlock for each Lock statement, with its object. No walk here.
-/
namespace Go.Proofs.YtkpdngfkdmllkaaDoor
set_option linter.unusedVariables false
set_option linter.unusedSimpArgs false
open Go.RowKit
set_option maxRecDepth 100000

def catTo {α : Type} (f : Nat → List α) : Nat → List α
  | 0 => []
  | n + 1 => catTo f n ++ f n
theorem catTo_eq {α : Type} (f g : Nat → List α) : ∀ n, (∀ i, i < n → f i = g i) → catTo f n = catTo g n := by
  intro n
  induction n with
  | zero => intro _; rfl
  | succ n ih => intro h; show catTo f n ++ f n = catTo g n ++ g n; rw [ih (fun i hi => h i (by omega)), h n (by omega)]
/-- the objects of the Lock statements of a tree, in pre-order -/
def Tree.locks : Tree → List ByteArray
  | .node k n s l kid => (if k = 46 then [s] else []) ++ catTo (fun i => if h : i < l then locks (kid ⟨i, h⟩) else []) l
theorem Tree.locks_eq (t : Tree) : t.locks = (if t.kind = 46 then [t.name] else []) ++ catTo (fun i => (t.kid i).locks) t.len := by
  cases t with
  | node k n s l kid =>
    rw [Tree.locks]
    show _ ++ _ = (if k = 46 then [s] else []) ++ catTo (fun i => ((Tree.node k n s l kid).kid i).locks) l
    congr 1
    refine catTo_eq _ _ _ (fun i hi => ?_)
    rw [dif_pos hi, Tree.kid_node hi]
theorem catTo_nil {α : Type} {f : Nat → List α} : ∀ n, (∀ i, i < n → f i = []) → catTo f n = [] := by
  intro n
  induction n with
  | zero => intro _; rfl
  | succ n ih => intro h; show catTo f n ++ f n = []; rw [ih (fun i hi => h i (by omega)), h n (by omega)]; rfl
theorem locksE : ∀ (t : Tree), t.vld 101 = true → t.locks = [] := by
  intro t
  induction t using Tree.ind with
  | h t ih =>
    intro hv
    obtain ⟨hk, _, hkid, _⟩ := vldE hv
    rw [Tree.locks_eq, if_neg (by omega), List.nil_append]
    exact catTo_nil _ (fun i hi => ih i hi (hkid i hi))
theorem locksP {p : Tree} (h : p.vld 112 = true) : p.locks = [] := by
  have h0 := h
  rw [Tree.vld_eq, Bool.and_eq_true] at h
  obtain ⟨h1, h2⟩ := h
  have hk : p.kind = 2 ∨ p.kind = 3 := by
    unfold Fm.belongs at h1
    simpa using h1
  rw [if_neg (by omega)] at h2
  simp only [Bool.and_eq_true, decide_eq_true_eq] at h2
  obtain ⟨⟨⟨⟨h3, h4⟩, h5⟩, h6⟩, h7⟩ := h2
  rw [Tree.locks_eq, if_neg (by omega), List.nil_append]
  rcases hk with hk | hk
  · rw [hk] at h5
    have h5 : p.len = 0 := h5
    rw [h5]
    rfl
  · rw [hk] at h5 h7
    have h5 : p.len = 1 := h5
    have h8 : (p.kid 0).vld 101 = true := Tree.allTo_iff.1 h7 0 (by omega)
    rw [h5]
    show [] ++ (p.kid 0).locks = []
    rw [locksE _ h8]
    rfl
section
variable (f : Ins → Bool)
/-- how many instructions of a translation so far answer -/
def LS.cnt (s : LS) : Nat := (s.done.map (fun b => b.code.countP f)).sum + s.code.countP f
/-- an instruction's operation is neither Lock nor Unlock -/
def Calm46 (i : Ins) : Prop := i.op ≠ 11 ∧ i.op ≠ 12
theorem calm_ins {op d x y imm : Int} {s : ByteArray} (h : op ≠ 11 ∧ op ≠ 12) : Calm46 (insB op d x y imm s) := h
theorem lowB_calm {E : LEnv} {V : VM} {k n : Int} {s : ByteArray} {f0 f1 : Nat → LE} (h0 : ∀ R, ∀ i ∈ (f0 R).code, Calm46 i) (h1 : ∀ R, ∀ i ∈ (f1 R).code, Calm46 i) (R : Nat) : ∀ i ∈ (lowB E V k n s f0 f1 R).code, Calm46 i := by
  intro i hi
  unfold lowB at hi
  split at hi
  · simp only [List.mem_cons, List.not_mem_nil, or_false] at hi; subst hi; exact calm_ins (by decide)
  split at hi
  · cases hi
  split at hi
  · simp only [List.mem_append, List.mem_cons, List.not_mem_nil, or_false] at hi
    rcases hi with hi | rfl | rfl
    · exact h0 _ _ hi
    · exact calm_ins (by decide)
    · by_cases h : E.sh s = true
      · simp only [h, if_true]; exact calm_ins (by decide)
      · rw [if_neg h]; exact calm_ins (by decide)
  split at hi
  · simp only [List.mem_append, List.mem_cons, List.not_mem_nil, or_false] at hi
    rcases hi with hi | rfl | rfl
    · exact h0 _ _ hi
    · exact calm_ins (by decide)
    · exact calm_ins (by decide)
  split at hi
  · simp only [List.mem_append, List.mem_cons, List.not_mem_nil, or_false] at hi
    rcases hi with hi | rfl | rfl
    · exact h0 _ _ hi
    · exact calm_ins (by decide)
    · exact calm_ins (by decide)
  · simp only [List.mem_append, List.mem_cons, List.not_mem_nil, or_false] at hi
    rcases hi with (hi | hi) | rfl
    · exact h0 _ _ hi
    · exact h1 _ _ hi
    · exact calm_ins (by decide)
theorem lowE_calm (E : LEnv) (V : VM) : ∀ (t : Tree) (R : Nat), ∀ i ∈ (t.lowE E V R).code, Calm46 i := by
  intro t
  induction t using Tree.ind with
  | h t ih =>
    intro R
    rw [Tree.lowE_eq]
    refine lowB_calm (fun R i hi => ?_) (fun R i hi => ?_) R
    · by_cases h : 0 < t.len
      · rw [if_pos h] at hi; exact ih 0 h R i hi
      · rw [if_neg h] at hi; cases hi
    · by_cases h : 1 < t.len
      · rw [if_pos h] at hi; exact ih 1 h R i hi
      · rw [if_neg h] at hi; cases hi
theorem kidLE_calm (E : LEnv) (t : Tree) (j : Nat) (V : VM) (R : Nat) : ∀ i ∈ (kidLE E t j V R).code, Calm46 i := by
  intro i hi
  unfold kidLE at hi
  by_cases h : j < t.len
  · rw [if_pos h] at hi; exact lowE_calm E V _ _ i hi
  · rw [if_neg h] at hi; cases hi
end
section
variable {f : Ins → Bool} {P : ByteArray → Bool}
/-- a count that passes over calm instructions and takes one of a lock and its unlock for an object -/
structure CntF (f : Ins → Bool) (P : ByteArray → Bool) : Prop where
  calm : ∀ i, Calm46 i → f i = false
  pair : ∀ nm, [insB 11 0 0 0 0 nm, insB 12 0 0 0 0 nm].countP f = [nm].countP P
theorem CntF.zero (h : CntF f P) {l : List Ins} (hl : ∀ i ∈ l, Calm46 i) : l.countP f = 0 := by
  rw [List.countP_eq_zero]
  intro i hi
  rw [h.calm i (hl i hi)]
  decide
theorem CntF.one (h : CntF f P) {i : Ins} (hl : Calm46 i) : [i].countP f = 0 := h.zero (fun x hx => by obtain rfl := List.mem_singleton.1 hx; exact hl)
theorem loop_cnt (h : CntF f P) {lim : Int} {d : Nat} {hd : LE} {enter : VM → VM} {b : LF} {k : Nat} {c : List Ins} {V : VM} {n : Nat} (h0 : hd.code.countP f = 0) (hb : ∀ k c R V, (b k c R V).cnt f = c.countP f + n) : (loopL lim d hd enter b k c V).cnt f = c.countP f + n := by
  unfold loopL
  dsimp only
  have c1 := hb (k + 2) [insB 16 0 d 0 lim noB] hd.regs (enter V)
  rw [h.one (calm_ins (by decide))] at c1
  obtain ⟨q, hq⟩ : ∃ q, b (k + 2) [insB 16 0 d 0 lim noB] hd.regs (enter V) = q := ⟨_, rfl⟩
  rw [hq] at c1 ⊢
  have e1 := h.one (calm_ins (d := 0) (x := 0) (y := 0) (imm := d) (s := noB) (show (13 : Int) ≠ 11 ∧ (13 : Int) ≠ 12 by decide))
  have e2 := h.one (calm_ins (d := 0) (x := 0) (y := 0) (imm := d) (s := noB) (show (14 : Int) ≠ 11 ∧ (14 : Int) ≠ 12 by decide))
  unfold LS.cnt at c1 ⊢
  simp only [List.map_append, List.map_cons, List.map_nil, List.sum_append, List.sum_cons, List.sum_nil, List.countP_append, List.countP_nil, h0, e1, e2, Nat.add_zero, Nat.zero_add] at c1 ⊢
  omega
theorem low_cnt (h : CntF f P) (E : LEnv) : ∀ (t : Tree), (t.vld 98 = true ∨ t.vld 115 = true) → ∀ (d k : Nat) (c : List Ins) (R : Nat) (V : VM), (t.low E d k c R V).cnt f = c.countP f + t.locks.countP P := by
  intro t
  induction t using Tree.ind with
  | h t ih =>
    intro hv d k c R V
    rw [Tree.low_eq, Tree.locks_eq]
    rcases hv with hv | hv
    · obtain ⟨hk, hkid⟩ := vldB hv
      rw [if_pos hk, if_neg (by omega), List.nil_append]
      have key : ∀ n, n ≤ t.len → (seqL (fun i => kidL E t i d) k c R V n).cnt f = c.countP f + (catTo (fun i => (t.kid i).locks) n).countP P := by
        intro n
        induction n with
        | zero => intro _; show (LS.mk [] c R V).cnt f = _; unfold LS.cnt catTo; simp
        | succ n ihn =>
          intro hn
          have h1 := ihn (by omega)
          show ((seqL (fun i => kidL E t i d) k c R V n).next k (kidL E t n d)).cnt f = _
          obtain ⟨q, hq⟩ : ∃ q, seqL (fun i => kidL E t i d) k c R V n = q := ⟨_, rfl⟩
          rw [hq] at h1 ⊢
          have h2 := ih n (by omega) (.inr (hkid n (by omega))) d (k + q.done.length) q.code q.regs q.vars
          have h3 : kidL E t n d = (t.kid n).low E d := by unfold kidL; rw [if_pos (show n < t.len by omega)]
          rw [h3]
          unfold LS.cnt at h1 h2
          unfold LS.next LS.cnt
          simp only [List.map_append, List.sum_append]
          show _ = c.countP f + (catTo (fun i => (t.kid i).locks) n ++ (t.kid n).locks).countP _
          rw [List.countP_append]
          omega
      exact key t.len (Nat.le_refl _)
    · obtain ⟨⟨hk1, hk2⟩, _, hlen, hkid⟩ := vldS hv
      rw [if_neg (by omega)]
      have hb : ∀ i, i < t.len → (t.kid i).vld 98 = true → ∀ d k c R V, (kidL E t i d k c R V).cnt f = c.countP f + (t.kid i).locks.countP P := fun i hi hvi d k c R V => by
        have h3 : kidL E t i d = (t.kid i).low E d := by unfold kidL; rw [if_pos hi]
        rw [h3]
        exact ih i hi (.inl hvi) d k c R V
      have he : ∀ j V R, (kidLE E t j V R).code.countP f = 0 := fun j V R => h.zero (kidLE_calm E t j V R)
      have heE : ∀ (x : Tree) V R, (x.lowE E V R).code.countP f = 0 := fun x V R => h.zero (lowE_calm E V x R)
      obtain hk | hk | hk | hk | hk | hk | hk : t.kind = 40 ∨ t.kind = 41 ∨ t.kind = 42 ∨ t.kind = 43 ∨ t.kind = 44 ∨ t.kind = 45 ∨ t.kind = 46 := by omega
      all_goals rw [hk] at hlen hkid
      · have hlen : t.len = 2 := hlen
        have l0 := locksP (hkid 0 (by omega))
        have l1 := locksE _ (hkid 1 (by omega))
        rw [if_neg (by omega), hlen]
        show _ = _ + ([] ++ (([] ++ (t.kid 0).locks) ++ (t.kid 1).locks)).countP _
        rw [l0, l1]
        unfold lowS
        rw [if_pos hk]
        by_cases h2 : (t.kid 0).kind = 2
        · rw [if_pos h2]
          unfold LS.cnt
          simp only [List.map_nil, List.sum_nil, List.countP_append, he, h.one (calm_ins (show (2 : Int) ≠ 11 ∧ (2 : Int) ≠ 12 by decide))]
          simp
        · rw [if_neg h2]
          unfold LS.cnt
          have e1 : [insB 8 0 (((t.kid 0).kid 0).lowE E V R).r 0 (E.len (t.kid 0).name) noB, stoB E (t.kid 0).name (((t.kid 0).kid 0).lowE E V R).r (kidLE E t 1 V (((t.kid 0).kid 0).lowE E V R).regs).r].countP f = 0 := h.zero (fun i hi => by
            simp only [List.mem_cons, List.not_mem_nil, or_false] at hi
            rcases hi with rfl | rfl
            · exact calm_ins (by decide)
            · unfold stoB
              by_cases h : E.sh (t.kid 0).name = true
              · rw [if_pos h]; exact calm_ins (by decide)
              · rw [if_neg h]; exact calm_ins (by decide))
          simp only [List.map_nil, List.sum_nil, List.countP_append, he, heE, e1]
          simp
      · have hlen : t.len = 3 := hlen
        have l0 := locksE _ (hkid 0 (by omega))
        rw [if_neg (by omega), hlen]
        show _ = _ + ([] ++ ((([] ++ (t.kid 0).locks) ++ (t.kid 1).locks) ++ (t.kid 2).locks)).countP _
        rw [l0]
        unfold lowS
        rw [if_neg (by omega), if_pos hk]
        unfold ifL
        dsimp only
        have b1 := hb 1 (by omega) (hkid 1 (by omega))
        have b2 := hb 2 (by omega) (hkid 2 (by omega))
        obtain ⟨e, hee⟩ : ∃ e, kidLE E t 0 V R = e := ⟨_, rfl⟩
        have he0 := he 0 V R
        rw [hee] at he0 ⊢
        have c1 := b1 d (k + 1) [] e.regs V
        obtain ⟨s1, hs1⟩ : ∃ s1, kidL E t 1 d (k + 1) [] e.regs V = s1 := ⟨_, rfl⟩
        rw [hs1] at c1 ⊢
        have c2 := b2 d (k + 1 + s1.done.length + 1) [] s1.regs s1.vars
        obtain ⟨s2, hs2⟩ : ∃ s2, kidL E t 2 d (k + 1 + s1.done.length + 1) [] s1.regs s1.vars = s2 := ⟨_, rfl⟩
        rw [hs2] at c2 ⊢
        unfold LS.cnt at c1 c2 ⊢
        simp only [List.map_append, List.map_cons, List.map_nil, List.sum_append, List.sum_cons, List.sum_nil, List.countP_append, List.countP_nil, he0, List.nil_append] at c1 c2 ⊢
        omega
      · have hlen : t.len = 1 := hlen
        rw [if_neg (by omega), hlen]
        show _ = _ + ([] ++ ([] ++ (t.kid 0).locks)).countP _
        unfold lowS
        rw [if_neg (by omega), if_neg (by omega), if_pos hk]
        exact loop_cnt (lim := t.num) (d := d) (hd := forH t.num d R) (enter := fun V => upd V t.name (some R)) (b := kidL E t 0 (d + 1)) h (h.zero (fun i hi => by
          unfold forH at hi
          simp only [List.mem_cons, List.not_mem_nil, or_false] at hi
          rcases hi with rfl | rfl | rfl
          · exact calm_ins (by decide)
          · exact calm_ins (by decide)
          · exact calm_ins (by decide))) (hb 0 (by omega) (hkid 0 (by omega)) (d + 1))
      · have hlen : t.len = 2 := hlen
        have l0 := locksE _ (hkid 0 (by omega))
        rw [if_neg (by omega), hlen]
        show _ = _ + ([] ++ (([] ++ (t.kid 0).locks) ++ (t.kid 1).locks)).countP _
        rw [l0]
        unfold lowS
        rw [if_neg (by omega), if_neg (by omega), if_neg (by omega), if_pos hk]
        exact loop_cnt h (he 0 V R) (hb 1 (by omega) (hkid 1 (by omega)) (d + 1))
      · have hlen : t.len = 1 := hlen
        have l0 := locksP (hkid 0 (by omega))
        rw [if_neg (by omega), hlen]
        show _ = _ + ([] ++ ([] ++ (t.kid 0).locks)).countP _
        rw [l0]
        unfold lowS
        rw [if_neg (by omega), if_neg (by omega), if_neg (by omega), if_neg (by omega), if_pos hk]
        by_cases h2 : (t.kid 0).kind = 2
        · rw [if_pos h2]
          unfold LS.cnt
          simp only [List.map_nil, List.sum_nil, List.countP_append, h.one (calm_ins (show (9 : Int) ≠ 11 ∧ (9 : Int) ≠ 12 by decide))]
          simp
        · rw [if_neg h2]
          unfold LS.cnt
          have e1 : [insB 8 0 (((t.kid 0).kid 0).lowE E V R).r 0 (E.len (t.kid 0).name) noB, insB 9 (((t.kid 0).kid 0).lowE E V R).regs 0 0 t.num noB, stoB E (t.kid 0).name (((t.kid 0).kid 0).lowE E V R).r (((t.kid 0).kid 0).lowE E V R).regs].countP f = 0 := h.zero (fun i hi => by
            simp only [List.mem_cons, List.not_mem_nil, or_false] at hi
            rcases hi with rfl | rfl | rfl
            · exact calm_ins (by decide)
            · exact calm_ins (by decide)
            · unfold stoB
              by_cases h : E.sh (t.kid 0).name = true
              · rw [if_pos h]; exact calm_ins (by decide)
              · rw [if_neg h]; exact calm_ins (by decide))
          simp only [List.map_nil, List.sum_nil, List.countP_append, heE, e1]
          simp
      · have hlen : t.len = 1 := hlen
        have l0 := locksE _ (hkid 0 (by omega))
        rw [if_neg (by omega), hlen]
        show _ = _ + ([] ++ ([] ++ (t.kid 0).locks)).countP _
        rw [l0]
        unfold lowS
        rw [if_neg (by omega), if_neg (by omega), if_neg (by omega), if_neg (by omega), if_neg (by omega), if_pos hk]
        unfold LS.cnt
        simp only [List.map_nil, List.sum_nil, List.countP_append, he, h.one (calm_ins (show (10 : Int) ≠ 11 ∧ (10 : Int) ≠ 12 by decide))]
        simp
      · have hlen : t.len = 1 := hlen
        rw [if_pos hk, hlen]
        show _ = _ + ([t.name] ++ ([] ++ (t.kid 0).locks)).countP _
        unfold lowS
        rw [if_neg (by omega), if_neg (by omega), if_neg (by omega), if_neg (by omega), if_neg (by omega), if_neg (by omega), if_pos hk]
        dsimp only
        have c1 := hb 0 (by omega) (hkid 0 (by omega)) d k (c ++ [insB 11 0 0 0 0 t.name]) R V
        obtain ⟨q, hq⟩ : ∃ q, kidL E t 0 d k (c ++ [insB 11 0 0 0 0 t.name]) R V = q := ⟨_, rfl⟩
        rw [hq] at c1 ⊢
        have hp := h.pair t.name
        rw [show [insB 11 0 0 0 0 t.name, insB 12 0 0 0 0 t.name] = [insB 11 0 0 0 0 t.name] ++ [insB 12 0 0 0 0 t.name] from rfl, List.countP_append] at hp
        unfold LS.cnt at c1 ⊢
        rw [List.nil_append]
        simp only [List.countP_append] at c1 ⊢
        omega
end
/-- the instructions of a function that answer -/
def Fn.cnt (F : Fn) (f : Ins → Bool) : Nat := (F.blocks.map (fun b => b.code.countP f)).sum
theorem lowFn_cnt {f : Ins → Bool} {P : ByteArray → Bool} (h : CntF f P) (shared : List Arr) (t : Tsk) (hv : t.body.vld 98 = true) : (lowFn shared t).cnt f = t.body.locks.countP P := by
  have h1 := low_cnt h (envOf shared t.arrays) t.body (.inl hv) 0 0 [] t.vars.length (varsM t.vars t.vars.length)
  unfold LS.cnt at h1
  unfold Fn.cnt lowFn lowS0
  simp only [List.map_append, List.map_cons, List.map_nil, List.sum_append, List.sum_cons, List.sum_nil, List.countP_nil, Nat.zero_add, Nat.add_zero] at h1 ⊢
  exact h1
def opS (op : Int) (s : ByteArray) (i : Ins) : Bool := decide (i.op = op) && decide (i.sym = s)
theorem cnt_lock (s : ByteArray) : CntF (opS 11 s) (fun x => decide (x = s)) := ⟨fun i hi => by unfold opS; rw [decide_eq_false hi.1]; rfl, fun nm => by simp [opS, List.countP_cons]⟩
theorem cnt_unlock (s : ByteArray) : CntF (opS 12 s) (fun x => decide (x = s)) := ⟨fun i hi => by unfold opS; rw [decide_eq_false hi.2]; rfl, fun nm => by simp [opS, List.countP_cons]⟩
def opA (op : Int) (i : Ins) : Bool := decide (i.op = op)
theorem cnt_locks : CntF (opA 11) (fun _ => true) := ⟨fun i hi => by unfold opA; rw [decide_eq_false hi.1], fun nm => by simp [opA, List.countP_cons]⟩
theorem cnt_unlocks : CntF (opA 12) (fun _ => true) := ⟨fun i hi => by unfold opA; rw [decide_eq_false hi.2], fun nm => by simp [opA, List.countP_cons]⟩
/-- no more locks than nodes, whatever the name -/
theorem lowFn_few {f : Ins → Bool} {P : ByteArray → Bool} (h : CntF f P) (shared : List Arr) (t : Tsk) (hv : t.body.vld 98 = true) : (lowFn shared t).cnt f ≤ t.body.locks.length := by
  rw [lowFn_cnt h shared t hv]
  exact List.countP_le_length
end Go.Proofs.YtkpdngfkdmllkaaDoor

/-
  Plain: where the blocks of a translation jump to. No walk here.
-/
namespace Go.Proofs.YtkpdngfkdmllkaaDoor
set_option linter.unusedVariables false
set_option linter.unusedSimpArgs false
open Go.RowKit
set_option maxRecDepth 100000

/-- complete blocks from number k on jump or branch, to places up to the block behind them -/
def TgtB (n : Nat) (x : Blk) : Prop := (x.kind = 1 ∨ x.kind = 2) ∧ (0 ≤ x.to ∧ x.to ≤ (n : Nat)) ∧ (0 ≤ x.els ∧ x.els ≤ (n : Nat))
def TgtL (k : Nat) (s : LS) : Prop := ∀ x ∈ s.done, TgtB (k + s.done.length) x
theorem TgtB.mono {n m : Nat} {x : Blk} (h : TgtB n x) (hn : n ≤ m) : TgtB m x := ⟨h.1, ⟨h.2.1.1, by have := h.2.1.2; omega⟩, ⟨h.2.2.1, by have := h.2.2.2; omega⟩⟩
theorem TgtB.jmp {n a : Nat} {c : List Ins} (h : a ≤ n) : TgtB n (jmpB c a) := ⟨.inl rfl, ⟨by show (0 : Int) ≤ (a : Nat); omega, by show ((a : Nat) : Int) ≤ (n : Nat); omega⟩, ⟨by show (0 : Int) ≤ 0; omega, by show (0 : Int) ≤ (n : Nat); omega⟩⟩
theorem low_tgt (E : LEnv) : ∀ (t : Tree), (t.vld 98 = true ∨ t.vld 115 = true) → ∀ (d k : Nat) (c : List Ins) (R : Nat) (V : VM), TgtL k (t.low E d k c R V) := by
  intro t
  induction t using Tree.ind with
  | h t ih =>
    intro hv d k c R V
    rw [Tree.low_eq]
    rcases hv with hv | hv
    · obtain ⟨hk, hkid⟩ := vldB hv
      rw [if_pos hk]
      have key : ∀ n, n ≤ t.len → TgtL k (seqL (fun i => kidL E t i d) k c R V n) := by
        intro n
        induction n with
        | zero => intro _ x hx; cases hx
        | succ n ihn =>
          intro hn
          have h1 := ihn (by omega)
          show TgtL k ((seqL (fun i => kidL E t i d) k c R V n).next k (kidL E t n d))
          obtain ⟨q, hq⟩ : ∃ q, seqL (fun i => kidL E t i d) k c R V n = q := ⟨_, rfl⟩
          rw [hq] at h1 ⊢
          have h2 := ih n (by omega) (.inr (hkid n (by omega))) d (k + q.done.length) q.code q.regs q.vars
          have h3 : kidL E t n d = (t.kid n).low E d := by unfold kidL; rw [if_pos (show n < t.len by omega)]
          rw [h3]
          intro x hx
          have hx : x ∈ q.done ++ ((t.kid n).low E d (k + q.done.length) q.code q.regs q.vars).done := hx
          show TgtB (k + (q.done ++ ((t.kid n).low E d (k + q.done.length) q.code q.regs q.vars).done).length) x
          rw [List.length_append]
          rcases List.mem_append.1 hx with hx | hx
          · exact (h1 x hx).mono (by omega)
          · exact (h2 x hx).mono (by omega)
      exact key t.len (Nat.le_refl _)
    · obtain ⟨⟨hk1, hk2⟩, _, hlen, hkid⟩ := vldS hv
      rw [if_neg (by omega)]
      have hb : ∀ i, i < t.len → (t.kid i).vld 98 = true → ∀ d k c R V, TgtL k (kidL E t i d k c R V) := fun i hi hvi d k c R V => by
        have h3 : kidL E t i d = (t.kid i).low E d := by unfold kidL; rw [if_pos hi]
        rw [h3]
        exact ih i hi (.inl hvi) d k c R V
      have hloop : ∀ (lim : Int) (h : LE) (enter : VM → VM) (b : LF), (∀ k c R V, TgtL k (b k c R V)) → TgtL k (loopL lim d h enter b k c V) := by
        intro lim h enter b hbb x hx
        unfold loopL at hx ⊢
        dsimp only at hx ⊢
        have h2 := hbb (k + 2) [insB 16 0 d 0 lim noB] h.regs (enter V)
        obtain ⟨q, hq⟩ : ∃ q, b (k + 2) [insB 16 0 d 0 lim noB] h.regs (enter V) = q := ⟨_, rfl⟩
        rw [hq] at hx h2 ⊢
        simp only [List.mem_append, List.mem_cons, List.not_mem_nil, or_false] at hx
        simp only [List.length_append, List.length_cons, List.length_nil]
        rcases hx with ((rfl | rfl) | hx) | rfl
        · exact TgtB.jmp (a := k + 1) (by omega)
        · exact ⟨.inr rfl, ⟨by show (0 : Int) ≤ ((k + 2 : Nat) : Int); omega, by show ((k + 2 : Nat) : Int) ≤ _; omega⟩, ⟨by show (0 : Int) ≤ ((k + 2 + q.done.length + 1 : Nat) : Int); omega, by show ((k + 2 + q.done.length + 1 : Nat) : Int) ≤ _; omega⟩⟩
        · exact (h2 x hx).mono (by omega)
        · exact TgtB.jmp (a := k + 1) (by omega)
      obtain hk | hk | hk | hk | hk | hk | hk : t.kind = 40 ∨ t.kind = 41 ∨ t.kind = 42 ∨ t.kind = 43 ∨ t.kind = 44 ∨ t.kind = 45 ∨ t.kind = 46 := by omega
      all_goals rw [hk] at hlen hkid
      · unfold lowS
        rw [if_pos hk]
        intro x hx
        split at hx <;> cases hx
      · have hlen : t.len = 3 := hlen
        unfold lowS
        rw [if_neg (by omega), if_pos hk]
        intro x hx
        unfold ifL at hx ⊢
        dsimp only at hx ⊢
        obtain ⟨e, hee⟩ : ∃ e, kidLE E t 0 V R = e := ⟨_, rfl⟩
        rw [hee] at hx ⊢
        have h1 := hb 1 (by omega) (hkid 1 (by omega)) d (k + 1) [] e.regs V
        obtain ⟨s1, hs1⟩ : ∃ s1, kidL E t 1 d (k + 1) [] e.regs V = s1 := ⟨_, rfl⟩
        rw [hs1] at hx h1 ⊢
        have h2 := hb 2 (by omega) (hkid 2 (by omega)) d (k + 1 + s1.done.length + 1) [] s1.regs s1.vars
        obtain ⟨s2, hs2⟩ : ∃ s2, kidL E t 2 d (k + 1 + s1.done.length + 1) [] s1.regs s1.vars = s2 := ⟨_, rfl⟩
        rw [hs2] at hx h2 ⊢
        simp only [List.mem_append, List.mem_cons, List.not_mem_nil, or_false] at hx
        simp only [List.length_append, List.length_cons, List.length_nil]
        rcases hx with ((rfl | hx) | (rfl | hx)) | rfl
        · exact ⟨.inr rfl, ⟨by show (0 : Int) ≤ ((k + 1 : Nat) : Int); omega, by show ((k + 1 : Nat) : Int) ≤ _; omega⟩, ⟨by show (0 : Int) ≤ ((k + 1 + s1.done.length + 1 : Nat) : Int); omega, by show ((k + 1 + s1.done.length + 1 : Nat) : Int) ≤ _; omega⟩⟩
        · exact (h1 x hx).mono (by omega)
        · exact TgtB.jmp (by omega)
        · exact (h2 x hx).mono (by omega)
        · exact TgtB.jmp (by omega)
      · have hlen : t.len = 1 := hlen
        unfold lowS
        rw [if_neg (by omega), if_neg (by omega), if_pos hk]
        exact hloop t.num (forH t.num d R) (fun V => upd V t.name (some R)) (kidL E t 0 (d + 1)) (hb 0 (by omega) (hkid 0 (by omega)) (d + 1))
      · have hlen : t.len = 2 := hlen
        unfold lowS
        rw [if_neg (by omega), if_neg (by omega), if_neg (by omega), if_pos hk]
        exact hloop _ _ _ _ (hb 1 (by omega) (hkid 1 (by omega)) (d + 1))
      · unfold lowS
        rw [if_neg (by omega), if_neg (by omega), if_neg (by omega), if_neg (by omega), if_pos hk]
        intro x hx
        split at hx <;> cases hx
      · unfold lowS
        rw [if_neg (by omega), if_neg (by omega), if_neg (by omega), if_neg (by omega), if_neg (by omega), if_pos hk]
        intro x hx
        cases hx
      · have hlen : t.len = 1 := hlen
        unfold lowS
        rw [if_neg (by omega), if_neg (by omega), if_neg (by omega), if_neg (by omega), if_neg (by omega), if_neg (by omega), if_pos hk]
        exact hb 0 (by omega) (hkid 0 (by omega)) d k (c ++ [insB 11 0 0 0 0 t.name]) R V
/-- every block of a function but the last jumps or branches within the function -/
theorem lowFn_tgt (shared : List Arr) (t : Tsk) (hv : t.body.vld 98 = true) : ∀ x ∈ (lowFn shared t).blocks, (x.kind = 3 ∧ x.to = 0 ∧ x.els = 0) ∨ ((x.kind = 1 ∨ x.kind = 2) ∧ (0 ≤ x.to ∧ x.to < ((lowFn shared t).blocks.length : Nat)) ∧ (0 ≤ x.els ∧ x.els < ((lowFn shared t).blocks.length : Nat))) := by
  intro x hx
  have h1 := low_tgt (envOf shared t.arrays) t.body (.inl hv) 0 0 [] t.vars.length (varsM t.vars t.vars.length)
  have hl : (lowFn shared t).blocks.length = (lowS0 shared t).done.length + 1 := by
    show ((lowS0 shared t).done ++ _).length = _
    rw [List.length_append]
    rfl
  rw [hl]
  have hx : x ∈ (lowS0 shared t).done ++ [⟨(lowS0 shared t).code, 3, 0, 0, 0⟩] := hx
  rcases List.mem_append.1 hx with hx | hx
  · obtain ⟨a, ⟨b, c⟩, d, e⟩ := h1 x hx
    have c : x.to ≤ ((0 + (lowS0 shared t).done.length : Nat) : Int) := c
    have e : x.els ≤ ((0 + (lowS0 shared t).done.length : Nat) : Int) := e
    exact .inr ⟨a, ⟨b, by omega⟩, ⟨d, by omega⟩⟩
  · obtain rfl := List.mem_singleton.1 hx
    exact .inl ⟨rfl, rfl, rfl⟩
end Go.Proofs.YtkpdngfkdmllkaaDoor

/-
  Plain law of LowerValid, first part: expressions. The registers, names and numbers of instructions are in range. No walk here.
-/
namespace Go.Proofs.YtkpdngfkdmllkaaDoor
set_option linter.unusedVariables false
set_option linter.unusedSimpArgs false
open Go.RowKit
set_option maxRecDepth 100000

theorem concatV_nil {β : Type} {f : Nat → List β} {n : Nat} (h : concatTo f n = []) : ∀ i, i < n → f i = [] := by
  induction n with
  | zero => intro i hi; omega
  | succ n ih =>
    rw [concatTo_succ, List.append_eq_nil_iff] at h
    intro i hi
    by_cases e : i = n
    · rw [e]; exact h.2
    · exact ih h.1 i (by omega)
theorem faultsV {d : Nms} {t : Tree} {path : List Int} {place : Bool} {loops locks : List ByteArray} (h : faultsT d t path place loops locks = []) : faultN d t.kind t.name place loops locks = 0 ∧ ∀ i, i < t.len → faultsT d (t.kid i) (path ++ [(i : Int)]) (placeIn t i) (loopsIn t loops) (locksIn t locks) = [] := by
  rw [faultsT_eq, List.append_eq_nil_iff] at h
  refine ⟨?_, fun i hi => concatV_nil h.2 i hi⟩
  have h1 := h.1
  unfold ownF at h1
  split at h1
  · assumption
  · cases h1
/-- the names of the translation are those of the check -/
structure EnvOk (E : LEnv) (ns : List (ByteArray × Bool)) (D : Nms) : Prop where
  arr : ∀ s, memB D.arrays s = true → lookB ns s = some true ∧ E.sh s = false ∧ 1 ≤ E.len s ∧ E.len s ≤ 131071
  obj : ∀ s, memB D.shared s = true → lookB ns s = some false ∧ E.sh s = true ∧ 1 ≤ E.len s ∧ E.len s ≤ 131071
/-- visible variables have registers -/
def VOk (D : Nms) (loops : List ByteArray) (V : VM) (R : Nat) : Prop := ∀ s, (memB D.scalars s || memB loops s) = true → ∃ r, V s = some r ∧ r < R
theorem VOk.mono {D : Nms} {loops : List ByteArray} {V : VM} {R R' : Nat} (h : VOk D loops V R) (hR : R ≤ R') : VOk D loops V R' := fun s hs => by obtain ⟨r, h1, h2⟩ := h s hs; exact ⟨r, h1, by omega⟩
theorem VOk.reg {D : Nms} {loops : List ByteArray} {V : VM} {R : Nat} (h : VOk D loops V R) {s : ByteArray} (hs : (memB D.scalars s || memB loops s) = true) : 0 ≤ V.reg s ∧ V.reg s < (R : Nat) := by
  obtain ⟨r, h1, h2⟩ := h s hs
  unfold VM.reg
  rw [h1]
  show 0 ≤ ((r : Nat) : Int) ∧ ((r : Nat) : Int) < _
  omega
theorem inReg_ok {n : Int} {R : Nat} : inReg n (R : Nat) = true ↔ 0 ≤ n ∧ n < (R : Nat) := by unfold inReg; simp
theorem betw_ok {n a b : Int} : betw n a b = true ↔ a ≤ n ∧ n ≤ b := by unfold betw; simp
theorem inReg_mono {n : Int} {R R' : Nat} (hR : R ≤ R') (h : inReg n (R : Nat) = true) : inReg n (R' : Nat) = true := by
  rw [inReg_ok] at h ⊢
  omega
theorem insOk_mono {R R' : Nat} {ns : List (ByteArray × Bool)} {i : Ins} (hR : R ≤ R') (h : insOk (R : Nat) ns i = true) : insOk (R' : Nat) ns i = true := by
  have m : ∀ n, inReg n (R : Nat) = true → inReg n (R' : Nat) = true := fun n => inReg_mono hR
  unfold insOk at h ⊢
  cases h1 : (i.op == 1)
  case true => simp only [h1, cond_true, Bool.and_eq_true] at h ⊢; simp only [h, m _ h.1.1.1.1, and_self]
  cases h2 : (i.op == 2)
  case true => simp only [h1, h2, cond_true, cond_false, Bool.and_eq_true] at h ⊢; simp only [h, m _ h.1.1.1.1, m _ h.1.1.1.2, and_self]
  cases h3 : (i.op == 3)
  case true => simp only [h1, h2, h3, cond_true, cond_false, Bool.and_eq_true] at h ⊢; simp only [h, m _ h.1.1.1.1, m _ h.1.1.1.2, m _ h.1.1.2, and_self]
  cases h4 : (i.op == 4 || i.op == 6)
  case true => simp only [h1, h2, h3, h4, cond_true, cond_false, Bool.and_eq_true] at h ⊢; exact ⟨⟨⟨⟨m _ h.1.1.1.1, m _ h.1.1.1.2⟩, h.1.1.2⟩, h.1.2⟩, h.2⟩
  cases h5 : (i.op == 5 || i.op == 7)
  case true => simp only [h1, h2, h3, h4, h5, cond_true, cond_false, Bool.and_eq_true] at h ⊢; exact ⟨⟨⟨⟨m _ h.1.1.1.1, m _ h.1.1.1.2⟩, h.1.1.2⟩, h.1.2⟩, h.2⟩
  cases h6 : (i.op == 8)
  case true => simp only [h1, h2, h3, h4, h5, h6, cond_true, cond_false, Bool.and_eq_true] at h ⊢; exact ⟨⟨⟨⟨m _ h.1.1.1.1, h.1.1.1.2⟩, h.1.1.2⟩, h.1.2⟩, h.2⟩
  cases h7 : (i.op == 9)
  case true => simp only [h1, h2, h3, h4, h5, h6, h7, cond_true, cond_false, Bool.and_eq_true] at h ⊢; exact ⟨⟨⟨⟨m _ h.1.1.1.1, h.1.1.1.2⟩, h.1.1.2⟩, h.1.2⟩, h.2⟩
  cases h8 : (i.op == 10)
  case true => simp only [h1, h2, h3, h4, h5, h6, h7, h8, cond_true, cond_false, Bool.and_eq_true] at h ⊢; exact ⟨⟨⟨⟨m _ h.1.1.1.1, h.1.1.1.2⟩, h.1.1.2⟩, h.1.2⟩, h.2⟩
  cases h9 : (i.op == 11 || i.op == 12)
  case true => simp only [h1, h2, h3, h4, h5, h6, h7, h8, h9, cond_true, cond_false] at h ⊢; exact h
  cases h10 : (i.op == 13 || i.op == 14)
  case true => simp only [h1, h2, h3, h4, h5, h6, h7, h8, h9, h10, cond_true, cond_false] at h ⊢; exact h
  cases h11 : (i.op == 15)
  case true => simp only [h1, h2, h3, h4, h5, h6, h7, h8, h9, h10, h11, cond_true, cond_false, Bool.and_eq_true] at h ⊢; exact ⟨⟨⟨⟨m _ h.1.1.1.1, h.1.1.1.2⟩, h.1.1.2⟩, h.1.2⟩, h.2⟩
  simp only [h1, h2, h3, h4, h5, h6, h7, h8, h9, h10, h11, cond_false] at h ⊢
  exact h
section
variable (ns : List (ByteArray × Bool))
/-- an instruction is valid where there are R registers -/
def IOk (R : Nat) (i : Ins) : Prop := insOk (R : Nat) ns i = true
def COk (R : Nat) (l : List Ins) : Prop := ∀ i ∈ l, IOk ns R i
end
section
variable {ns : List (ByteArray × Bool)} {R R' : Nat}
theorem COk.mono {l : List Ins} (h : COk ns R l) (hR : R ≤ R') : COk ns R' l := fun i hi => insOk_mono hR (h i hi)
theorem COk.nil : COk ns R [] := fun i hi => by cases hi
theorem COk.app {a b : List Ins} (h : COk ns R a) (h' : COk ns R b) : COk ns R (a ++ b) := fun i hi => by
  rcases List.mem_append.1 hi with hi | hi
  · exact h i hi
  · exact h' i hi
theorem COk.cons {a : Ins} {b : List Ins} (h : IOk ns R a) (h' : COk ns R b) : COk ns R (a :: b) := fun i hi => by
  rcases List.mem_cons.1 hi with rfl | hi
  · exact h
  · exact h' i hi
theorem COk.one {a : Ins} (h : IOk ns R a) : COk ns R [a] := COk.cons h COk.nil
theorem ok_const {d n : Int} (h0 : 0 ≤ d ∧ d < (R : Nat)) (h1 : 0 ≤ n ∧ n ≤ 2147483647) : IOk ns R (insB 1 d 0 0 n noB) := by
  have e1 : inReg d (R : Nat) = true := inReg_ok.2 h0
  have e2 : betw n (-2147483648) 2147483647 = true := betw_ok.2 (by omega)
  unfold IOk insOk
  simp [e1, e2, noB]
theorem ok_move {d x : Int} (h0 : 0 ≤ d ∧ d < (R : Nat)) (h1 : 0 ≤ x ∧ x < (R : Nat)) : IOk ns R (insB 2 d x 0 0 noB) := by
  have e1 : inReg d (R : Nat) = true := inReg_ok.2 h0
  have e2 : inReg x (R : Nat) = true := inReg_ok.2 h1
  unfold IOk insOk
  simp [e1, e2, noB]
theorem ok_bin {d x y k : Int} (h0 : 0 ≤ d ∧ d < (R : Nat)) (h1 : 0 ≤ x ∧ x < (R : Nat)) (h2 : 0 ≤ y ∧ y < (R : Nat)) (h3 : 6 ≤ k ∧ k ≤ 23) : IOk ns R (insB 3 d x y k noB) := by
  have e1 : inReg d (R : Nat) = true := inReg_ok.2 h0
  have e2 : inReg x (R : Nat) = true := inReg_ok.2 h1
  have e3 : inReg y (R : Nat) = true := inReg_ok.2 h2
  have e4 : betw k 6 23 = true := betw_ok.2 h3
  unfold IOk insOk
  simp [e1, e2, e3, e4, noB]
theorem ok_bound {x n : Int} (h0 : 0 ≤ x ∧ x < (R : Nat)) (h1 : 1 ≤ n ∧ n ≤ 131071) : IOk ns R (insB 8 0 x 0 n noB) := by
  have e1 : inReg x (R : Nat) = true := inReg_ok.2 h0
  have e2 : betw n 1 131071 = true := betw_ok.2 h1
  unfold IOk insOk
  simp [e1, e2, noB]
theorem ok_in {d n : Int} (h0 : 0 ≤ d ∧ d < (R : Nat)) (h1 : 0 ≤ n ∧ n ≤ 7) : IOk ns R (insB 9 d 0 0 n noB) := by
  have e1 : inReg d (R : Nat) = true := inReg_ok.2 h0
  have e2 : betw n 0 7 = true := betw_ok.2 h1
  unfold IOk insOk
  simp [e1, e2, noB]
theorem ok_out {x n : Int} (h0 : 0 ≤ x ∧ x < (R : Nat)) (h1 : 0 ≤ n ∧ n ≤ 7) : IOk ns R (insB 10 0 x 0 n noB) := by
  have e1 : inReg x (R : Nat) = true := inReg_ok.2 h0
  have e2 : betw n 0 7 = true := betw_ok.2 h1
  unfold IOk insOk
  simp [e1, e2, noB]
theorem ok_lock {op : Int} {s : ByteArray} (ho : op = 11 ∨ op = 12) (h : lookB ns s = some false) : IOk ns R (insB op 0 0 0 0 s) := by
  unfold IOk insOk
  rcases ho with rfl | rfl <;> simp [h]
theorem ok_count {op : Int} {d : Nat} (ho : op = 13 ∨ op = 14) (h : d ≤ 3) : IOk ns R (insB op 0 0 0 d noB) := by
  have e2 : betw (d : Nat) 0 3 = true := betw_ok.2 (by omega)
  unfold IOk insOk
  rcases ho with rfl | rfl <;> simp [e2, noB]
theorem ok_read {v : Int} {d : Nat} (h0 : 0 ≤ v ∧ v < (R : Nat)) (h : d ≤ 3) : IOk ns R (insB 15 v 0 0 d noB) := by
  have e1 : inReg v (R : Nat) = true := inReg_ok.2 h0
  have e2 : betw (d : Nat) 0 3 = true := betw_ok.2 (by omega)
  unfold IOk insOk
  simp [e1, e2, noB]
theorem ok_limit {n : Int} {d : Nat} (h : d ≤ 3) (h1 : 1 ≤ n ∧ n ≤ 131071) : IOk ns R (insB 16 0 d 0 n noB) := by
  have e1 : betw (d : Nat) 0 3 = true := betw_ok.2 (by omega)
  have e2 : betw n 1 131071 = true := betw_ok.2 h1
  unfold IOk insOk
  simp [e1, e2, noB]
end
section
variable {E : LEnv} {ns : List (ByteArray × Bool)} {D : Nms} {R : Nat}
/-- a name of an item that is no fault -/
theorem item_ok (hE : EnvOk E ns D) {s : ByteArray} {place : Bool} {loops locks : List ByteArray} (h : faultN D 3 s place loops locks = 0) : lookB ns s = some (!E.sh s) ∧ 1 ≤ E.len s ∧ E.len s ≤ 131071 := by
  unfold faultN at h
  rw [if_neg (by decide), if_pos rfl] at h
  by_cases e1 : memB D.arrays s = true
  · obtain ⟨h1, h2, h3⟩ := hE.arr s e1
    rw [h2]
    exact ⟨h1, h3⟩
  · rw [if_neg e1] at h
    by_cases e2 : memB D.shared s = true
    · obtain ⟨h1, h2, h3⟩ := hE.obj s e2
      rw [h2]
      exact ⟨h1, h3⟩
    · rw [if_neg e2] at h
      split at h <;> exact absurd h (by decide)
theorem var_ok {s : ByteArray} {place : Bool} {loops locks : List ByteArray} (h : faultN D 2 s place loops locks = 0) : (memB D.scalars s || memB loops s) = true := by
  unfold faultN at h
  rw [if_pos rfl] at h
  split at h
  · exact absurd h (by decide)
  · split at h
    · assumption
    · split at h <;> exact absurd h (by decide)
theorem ok_load (hE : EnvOk E ns D) {d x : Int} {s : ByteArray} (hl : lookB ns s = some (!E.sh s)) (h0 : 0 ≤ d ∧ d < (R : Nat)) (h1 : 0 ≤ x ∧ x < (R : Nat)) : IOk ns R (insB (if E.sh s then 6 else 4) d x 0 0 s) := by
  have e1 : inReg d (R : Nat) = true := inReg_ok.2 h0
  have e2 : inReg x (R : Nat) = true := inReg_ok.2 h1
  unfold IOk insOk
  by_cases h : E.sh s = true
  · rw [h] at hl
    simp [h, hl, e1, e2]
  · rw [Bool.not_eq_true] at h
    rw [h] at hl
    simp [h, hl, e1, e2]
theorem ok_sto {x y : Int} {s : ByteArray} (hl : lookB ns s = some (!E.sh s)) (h0 : 0 ≤ x ∧ x < (R : Nat)) (h1 : 0 ≤ y ∧ y < (R : Nat)) : IOk ns R (stoB E s x y) := by
  have e1 : inReg x (R : Nat) = true := inReg_ok.2 h0
  have e2 : inReg y (R : Nat) = true := inReg_ok.2 h1
  unfold IOk insOk stoB
  by_cases h : E.sh s = true
  · rw [h] at hl
    simp [h, hl, e1, e2]
  · rw [Bool.not_eq_true] at h
    rw [h] at hl
    simp [h, hl, e1, e2]
/-- the code of an expression is valid -/
structure EOk (ns : List (ByteArray × Bool)) (R sz : Nat) (e : LE) : Prop where
  code : COk ns e.regs e.code
  lo : R ≤ e.regs
  hi : e.regs ≤ R + 2 * sz
  reg : 0 ≤ e.r ∧ e.r < (e.regs : Nat)
theorem lowE_ok (hE : EnvOk E ns D) : ∀ (t : Tree), t.vld 101 = true → ∀ (path : List Int) (place : Bool) (loops locks : List ByteArray), faultsT D t path place loops locks = [] → ∀ (R : Nat) (V : VM), VOk D loops V R → EOk ns R t.size (t.lowE E V R) := by
  intro t
  induction t using Tree.ind with
  | h t ih =>
    intro hv path place loops locks hf R V hV
    obtain ⟨⟨hk1, hk2⟩, hlen, hkid, hnum⟩ := vldE hv
    obtain ⟨f0, f1⟩ := faultsV hf
    have hlo : loopsIn t loops = loops := by unfold loopsIn; rw [if_neg (by omega)]
    have hkids : ∀ i, i < t.len → ∀ R, VOk D loops V R → EOk ns R (t.kid i).size ((t.kid i).lowE E V R) := fun i hi R hR => by
      have h1 := f1 i hi
      rw [hlo] at h1
      exact ih i hi (hkid i hi) _ _ _ _ h1 R V hR
    have hsz := t.size_eq
    rw [Tree.lowE_eq]
    by_cases k1 : t.kind = 1
    · unfold lowB
      rw [if_pos k1]
      exact ⟨COk.one (ok_const (by show 0 ≤ ((R : Nat) : Int) ∧ ((R : Nat) : Int) < ((R + 1 : Nat) : Int); omega) (hnum k1)), by show R ≤ R + 1; omega, by show R + 1 ≤ _; omega, by show 0 ≤ ((R : Nat) : Int) ∧ ((R : Nat) : Int) < ((R + 1 : Nat) : Int); omega⟩
    by_cases k2 : t.kind = 2
    · unfold lowB
      rw [if_neg k1, if_pos k2]
      rw [k2] at f0
      exact ⟨COk.nil, Nat.le_refl _, by show R ≤ _; omega, hV.reg (var_ok f0)⟩
    have hl1 : 0 < t.len := by
      rw [hlen]
      by_cases hc : t.kind = 3 ∨ t.kind = 4 ∨ t.kind = 5
      · rcases hc with e | e | e <;> rw [e] <;> decide
      · unfold Fm.kids
        rw [Fm.row_else t.kind (by omega)]
        decide
    have h0 := hkids 0 hl1 R hV
    have hs0 := Tree.sumTo_le (f := fun i => (t.kid i).size) (show 1 ≤ t.len from hl1)
    have hs0' : (t.kid 0).size ≤ Tree.sumTo (fun i => (t.kid i).size) t.len := by
      have e : Tree.sumTo (fun i => (t.kid i).size) 1 = 0 + (t.kid 0).size := rfl
      omega
    obtain ⟨e0, he0⟩ : ∃ e, (t.kid 0).lowE E V R = e := ⟨_, rfl⟩
    rw [he0] at h0
    have g0 := h0.reg
    have glo := h0.lo
    have ghi := h0.hi
    unfold lowB
    rw [if_neg k1, if_neg k2]
    dsimp only
    rw [if_pos hl1, he0]
    by_cases k3 : t.kind = 3
    · rw [if_pos k3]
      rw [k3] at f0
      obtain ⟨i1, i2⟩ := item_ok hE f0
      refine ⟨(h0.code.mono (by show e0.regs ≤ e0.regs + 1; omega)).app (COk.cons (ok_bound (by show 0 ≤ e0.r ∧ e0.r < ((e0.regs + 1 : Nat) : Int); omega) i2) (COk.one (ok_load hE i1 ?_ ?_))), by show R ≤ e0.regs + 1; omega, by show e0.regs + 1 ≤ _; omega, ?_⟩
      · show 0 ≤ ((e0.regs : Nat) : Int) ∧ ((e0.regs : Nat) : Int) < ((e0.regs + 1 : Nat) : Int); omega
      · show 0 ≤ e0.r ∧ e0.r < ((e0.regs + 1 : Nat) : Int); omega
      · show 0 ≤ ((e0.regs : Nat) : Int) ∧ ((e0.regs : Nat) : Int) < ((e0.regs + 1 : Nat) : Int); omega
    rw [if_neg k3]
    by_cases k4 : t.kind = 4
    · rw [if_pos k4]
      refine ⟨(h0.code.mono (by show e0.regs ≤ e0.regs + 2; omega)).app (COk.cons (ok_const ?_ (by omega)) (COk.one (ok_bin ?_ ?_ ?_ (by omega)))), by show R ≤ e0.regs + 2; omega, by show e0.regs + 2 ≤ _; omega, ?_⟩
      · show 0 ≤ ((e0.regs : Nat) : Int) ∧ ((e0.regs : Nat) : Int) < ((e0.regs + 2 : Nat) : Int); omega
      · show 0 ≤ ((e0.regs + 1 : Nat) : Int) ∧ ((e0.regs + 1 : Nat) : Int) < ((e0.regs + 2 : Nat) : Int); omega
      · show 0 ≤ ((e0.regs : Nat) : Int) ∧ ((e0.regs : Nat) : Int) < ((e0.regs + 2 : Nat) : Int); omega
      · show 0 ≤ e0.r ∧ e0.r < ((e0.regs + 2 : Nat) : Int); omega
      · show 0 ≤ ((e0.regs + 1 : Nat) : Int) ∧ ((e0.regs + 1 : Nat) : Int) < ((e0.regs + 2 : Nat) : Int); omega
    rw [if_neg k4]
    by_cases k5 : t.kind = 5
    · rw [if_pos k5]
      refine ⟨(h0.code.mono (by show e0.regs ≤ e0.regs + 2; omega)).app (COk.cons (ok_const ?_ (by omega)) (COk.one (ok_bin ?_ ?_ ?_ (by omega)))), by show R ≤ e0.regs + 2; omega, by show e0.regs + 2 ≤ _; omega, ?_⟩
      · show 0 ≤ ((e0.regs : Nat) : Int) ∧ ((e0.regs : Nat) : Int) < ((e0.regs + 2 : Nat) : Int); omega
      · show 0 ≤ ((e0.regs + 1 : Nat) : Int) ∧ ((e0.regs + 1 : Nat) : Int) < ((e0.regs + 2 : Nat) : Int); omega
      · show 0 ≤ e0.r ∧ e0.r < ((e0.regs + 2 : Nat) : Int); omega
      · show 0 ≤ ((e0.regs : Nat) : Int) ∧ ((e0.regs : Nat) : Int) < ((e0.regs + 2 : Nat) : Int); omega
      · show 0 ≤ ((e0.regs + 1 : Nat) : Int) ∧ ((e0.regs + 1 : Nat) : Int) < ((e0.regs + 2 : Nat) : Int); omega
    rw [if_neg k5]
    have hl2 : t.len = 2 := by
      rw [hlen]
      unfold Fm.kids
      rw [Fm.row_else t.kind (by omega)]
      rfl
    have hl1' : 1 < t.len := by omega
    have h1 := hkids 1 hl1' e0.regs (hV.mono glo)
    have hs1 : (t.kid 0).size + (t.kid 1).size ≤ Tree.sumTo (fun i => (t.kid i).size) t.len := by
      have e : Tree.sumTo (fun i => (t.kid i).size) 2 = 0 + (t.kid 0).size + (t.kid 1).size := rfl
      rw [hl2, e]
      omega
    obtain ⟨e1, he1⟩ : ∃ e, (t.kid 1).lowE E V e0.regs = e := ⟨_, rfl⟩
    rw [he1] at h1
    rw [if_pos hl1', he1]
    have p0 := h1.reg
    have plo := h1.lo
    have phi := h1.hi
    refine ⟨((h0.code.mono (by show e0.regs ≤ e1.regs + 1; omega)).app (h1.code.mono (by show e1.regs ≤ e1.regs + 1; omega))).app (COk.one (ok_bin ?_ ?_ ?_ (by omega))), by show R ≤ e1.regs + 1; omega, by show e1.regs + 1 ≤ _; omega, ?_⟩
    · show 0 ≤ ((e1.regs : Nat) : Int) ∧ ((e1.regs : Nat) : Int) < ((e1.regs + 1 : Nat) : Int); omega
    · show 0 ≤ e0.r ∧ e0.r < ((e1.regs + 1 : Nat) : Int); omega
    · show 0 ≤ e1.r ∧ e1.r < ((e1.regs + 1 : Nat) : Int); omega
    · show 0 ≤ ((e1.regs : Nat) : Int) ∧ ((e1.regs : Nat) : Int) < ((e1.regs + 1 : Nat) : Int); omega
end
end Go.Proofs.YtkpdngfkdmllkaaDoor

/-
  Plain law of LowerValid, second part: statements. No walk here.
-/
namespace Go.Proofs.YtkpdngfkdmllkaaDoor
set_option linter.unusedVariables false
set_option linter.unusedSimpArgs false
open Go.RowKit
set_option maxRecDepth 100000

/-- what a block's end says of registers -/
def BrOk (R : Nat) (b : Blk) : Prop := (b.kind = 1 → b.x = 0 ∧ b.els = 0) ∧ (b.kind = 2 → 0 ≤ b.x ∧ b.x < (R : Nat))
theorem BrOk.mono {R R' : Nat} {b : Blk} (h : BrOk R b) (hR : R ≤ R') : BrOk R' b := ⟨h.1, fun h2 => by have := h.2 h2; omega⟩
theorem BrOk.jmp {R a : Nat} {c : List Ins} : BrOk R (jmpB c a) := ⟨fun _ => ⟨rfl, rfl⟩, fun h => absurd (show (1 : Int) = 2 from h) (by decide)⟩
/-- the translation of statements is valid -/
structure SOkL (ns : List (ByteArray × Bool)) (D : Nms) (loops : List ByteArray) (R sz : Nat) (s : LS) : Prop where
  blocks : ∀ b ∈ s.done, COk ns s.regs b.code ∧ BrOk s.regs b
  code : COk ns s.regs s.code
  lo : R ≤ s.regs
  hi : s.regs ≤ R + 3 * sz
  vars : VOk D loops s.vars s.regs
section
variable {E : LEnv} {ns : List (ByteArray × Bool)} {D : Nms}
theorem loopL_ok {loops : List ByteArray} {lim : Int} {dd : Nat} {h : LE} {enter : VM → VM} {b : LF} {k : Nat} {c : List Ins} {V : VM} {R szb : Nat} (hl : 1 ≤ lim ∧ lim ≤ 131071) (hd : dd ≤ 3) (hc : COk ns R c) (hR : R ≤ h.regs) (hh : COk ns h.regs h.code) (hr : 0 ≤ h.r ∧ h.r < (h.regs : Nat))
    (hb : ∀ c, COk ns h.regs c → SOkL ns D loops h.regs szb (b (k + 2) c h.regs (enter V))) : SOkL ns D loops h.regs szb (loopL lim dd h enter b k c V) := by
  have h1 := hb [insB 16 0 dd 0 lim noB] (COk.one (ok_limit hd hl))
  unfold loopL
  dsimp only
  obtain ⟨s, hs⟩ : ∃ s, b (k + 2) [insB 16 0 dd 0 lim noB] h.regs (enter V) = s := ⟨_, rfl⟩
  rw [hs] at h1 ⊢
  refine ⟨?_, COk.nil, h1.lo, h1.hi, h1.vars⟩
  intro x hx
  have hx : x ∈ [jmpB (c ++ [insB 13 0 0 0 dd noB]) (k + 1), (⟨h.code, 2, h.r, (k + 2 : Nat), (k + 2 + s.done.length + 1 : Nat)⟩ : Blk)] ++ s.done ++ [jmpB (s.code ++ [insB 14 0 0 0 dd noB]) (k + 1)] := hx
  show COk ns s.regs x.code ∧ BrOk s.regs x
  have hlo := h1.lo
  simp only [List.mem_append, List.mem_cons, List.not_mem_nil, or_false] at hx
  rcases hx with ((rfl | rfl) | hx) | rfl
  · exact ⟨(hc.mono (by omega)).app (COk.one (ok_count (.inl rfl) hd)), BrOk.jmp⟩
  · exact ⟨hh.mono hlo, fun h0 => absurd (show (2 : Int) = 1 from h0) (by decide), fun _ => by show 0 ≤ h.r ∧ h.r < _; omega⟩
  · exact h1.blocks x hx
  · exact ⟨h1.code.app (COk.one (ok_count (.inr rfl) hd)), BrOk.jmp⟩
theorem forH_ok {n : Int} {d R : Nat} (hd : d ≤ 3) (hn : 1 ≤ n ∧ n ≤ 1000) : COk ns (R + 3) (forH n d R).code := by
  unfold forH
  refine COk.cons (ok_read ?_ hd) (COk.cons (ok_const ?_ (by omega)) (COk.one (ok_bin ?_ ?_ ?_ (by omega))))
  · show 0 ≤ ((R : Nat) : Int) ∧ ((R : Nat) : Int) < ((R + 3 : Nat) : Int); omega
  · show 0 ≤ ((R + 1 : Nat) : Int) ∧ ((R + 1 : Nat) : Int) < ((R + 3 : Nat) : Int); omega
  · show 0 ≤ ((R + 2 : Nat) : Int) ∧ ((R + 2 : Nat) : Int) < ((R + 3 : Nat) : Int); omega
  · show 0 ≤ ((R : Nat) : Int) ∧ ((R : Nat) : Int) < ((R + 3 : Nat) : Int); omega
  · show 0 ≤ ((R + 1 : Nat) : Int) ∧ ((R + 1 : Nat) : Int) < ((R + 3 : Nat) : Int); omega
theorem low_ok (hE : EnvOk E ns D) : ∀ (t : Tree), (t.vld 98 = true ∨ t.vld 115 = true) → ∀ (path : List Int) (place : Bool) (loops locks : List ByteArray), faultsT D t path place loops locks = [] → ∀ (d : Nat), d + t.nest ≤ 4 → ∀ (k : Nat) (c : List Ins) (R : Nat) (V : VM), COk ns R c → VOk D loops V R → SOkL ns D loops R t.size (t.low E d k c R V) := by
  intro t
  induction t using Tree.ind with
  | h t ih =>
    intro hv path place loops locks hf d hd k c R V hc hV
    rw [Tree.low_eq]
    obtain ⟨f0, f1⟩ := faultsV hf
    have hsz := t.size_eq
    have hne := t.nest_eq
    have hnk : ∀ i, i < t.len → (t.kid i).nest ≤ Tree.maxTo (fun i => (t.kid i).nest) t.len := fun i hi => Tree.le_maxTo (f := fun i => (t.kid i).nest) hi
    rcases hv with hv | hv
    · obtain ⟨hk, hkid⟩ := vldB hv
      rw [if_pos hk]
      have hlo : loopsIn t loops = loops := by unfold loopsIn; rw [if_neg (by omega)]
      rw [if_neg (by omega), Nat.add_zero] at hne
      have key : ∀ n, n ≤ t.len → SOkL ns D loops R (Tree.sumTo (fun i => (t.kid i).size) n) (seqL (fun i => kidL E t i d) k c R V n) := by
        intro n
        induction n with
        | zero => intro _; exact ⟨fun b hb => (by cases hb), hc, Nat.le_refl _, by show R ≤ _; omega, hV⟩
        | succ n ihn =>
          intro hn
          have h1 := ihn (by omega)
          show SOkL ns D loops R _ ((seqL (fun i => kidL E t i d) k c R V n).next k (kidL E t n d))
          obtain ⟨q, hq⟩ : ∃ q, seqL (fun i => kidL E t i d) k c R V n = q := ⟨_, rfl⟩
          rw [hq] at h1 ⊢
          have g1 := f1 n (by omega)
          rw [hlo] at g1
          have h2 := ih n (by omega) (.inr (hkid n (by omega))) _ _ _ _ g1 d (by have := hnk n (by omega); omega) (k + q.done.length) q.code q.regs q.vars h1.code h1.vars
          have h3 : kidL E t n d = (t.kid n).low E d := by unfold kidL; rw [if_pos (show n < t.len by omega)]
          rw [h3]
          obtain ⟨s, hs⟩ : ∃ s, (t.kid n).low E d (k + q.done.length) q.code q.regs q.vars = s := ⟨_, rfl⟩
          unfold LS.next
          rw [hs] at h2 ⊢
          have l1 := h1.lo
          have l2 := h2.lo
          have l3 := h1.hi
          have l4 := h2.hi
          refine ⟨fun b hb => ?_, h2.code, by show R ≤ s.regs; omega, by show s.regs ≤ _; rw [Tree.sumTo_succ]; omega, h2.vars⟩
          have hb : b ∈ q.done ++ s.done := hb
          show COk ns s.regs b.code ∧ BrOk s.regs b
          rcases List.mem_append.1 hb with hb | hb
          · obtain ⟨a1, a2⟩ := h1.blocks b hb
            exact ⟨a1.mono l2, a2.mono l2⟩
          · exact h2.blocks b hb
      have h9 := key t.len (Nat.le_refl _)
      exact ⟨h9.blocks, h9.code, h9.lo, by have := h9.hi; omega, h9.vars⟩
    · obtain ⟨⟨hk1, hk2⟩, ⟨hn1, hn2⟩, hlen, hkid⟩ := vldS hv
      rw [if_neg (by omega)]
      have hb : ∀ i, i < t.len → (t.kid i).vld 98 = true → ∀ d, d + (t.kid i).nest ≤ 4 → ∀ k c R V, COk ns R c → VOk D (loopsIn t loops) V R → SOkL ns D (loopsIn t loops) R (t.kid i).size (kidL E t i d k c R V) := fun i hi hvi d hd k c R V hc hV => by
        have h3 : kidL E t i d = (t.kid i).low E d := by unfold kidL; rw [if_pos hi]
        rw [h3]
        exact ih i hi (.inl hvi) _ _ _ _ (f1 i hi) d hd k c R V hc hV
      have he : ∀ j, j < t.len → (t.kid j).vld 101 = true → ∀ R V, VOk D (loopsIn t loops) V R → EOk ns R (t.kid j).size (kidLE E t j V R) := fun j hj hvj R V hV => by
        unfold kidLE
        rw [if_pos hj]
        exact lowE_ok hE (t.kid j) hvj _ _ _ _ (f1 j hj) R V hV
      obtain hk | hk | hk | hk | hk | hk | hk : t.kind = 40 ∨ t.kind = 41 ∨ t.kind = 42 ∨ t.kind = 43 ∨ t.kind = 44 ∨ t.kind = 45 ∨ t.kind = 46 := by omega
      all_goals rw [hk] at hlen hkid hn1 hn2
      · have hlen : t.len = 2 := hlen
        have hlo : loopsIn t loops = loops := by unfold loopsIn; rw [if_neg (by omega)]
        rw [hlo] at he f1
        have g0 := f1 0 (by omega)
        obtain ⟨p0, p1⟩ := faultsV g0
        have hs2 : Tree.sumTo (fun i => (t.kid i).size) t.len = 0 + (t.kid 0).size + (t.kid 1).size := by rw [hlen]; rfl
        unfold lowS
        rw [if_pos hk]
        by_cases h2 : (t.kid 0).kind = 2
        · rw [if_pos h2]
          rw [h2] at p0
          have e1 := he 1 (by omega) (hkid 1 (by omega)) R V hV
          have l1 := e1.lo
          have l2 := e1.hi
          have v1 := (hV.mono l1).reg (var_ok p0)
          exact ⟨fun b hb => (by cases hb), ((hc.mono l1).app e1.code).app (COk.one (ok_move v1 e1.reg)), l1, by show (kidLE E t 1 V R).regs ≤ _; omega, hV.mono l1⟩
        · rw [if_neg h2]
          dsimp only
          rcases vldP (hkid 0 (by omega)) with h3 | ⟨h3, h4, h5⟩
          · exact absurd h3 h2
          have hpl : loopsIn (t.kid 0) loops = loops := by unfold loopsIn; rw [if_neg (by omega)]
          have p2 := p1 0 (by omega)
          rw [hpl] at p2
          rw [h3] at p0
          obtain ⟨i1, i2⟩ := item_ok hE p0
          have e0 := lowE_ok hE ((t.kid 0).kid 0) h5 _ _ _ _ p2 R V hV
          have hsp := (t.kid 0).size_eq
          have hsq : Tree.sumTo (fun i => ((t.kid 0).kid i).size) (t.kid 0).len = 0 + ((t.kid 0).kid 0).size := by rw [h4]; rfl
          obtain ⟨q0, hq0⟩ : ∃ q, ((t.kid 0).kid 0).lowE E V R = q := ⟨_, rfl⟩
          rw [hq0] at e0 ⊢
          have l1 := e0.lo
          have l2 := e0.hi
          have e1 := he 1 (by omega) (hkid 1 (by omega)) q0.regs V (hV.mono l1)
          obtain ⟨q1, hq1⟩ : ∃ q, kidLE E t 1 V q0.regs = q := ⟨_, rfl⟩
          rw [hq1] at e1 ⊢
          have l3 := e1.lo
          have l4 := e1.hi
          have r0 := e0.reg
          have r1 := e1.reg
          refine ⟨fun b hb => (by cases hb), (((hc.mono (by show R ≤ q1.regs; omega)).app (e0.code.mono l3)).app e1.code).app (COk.cons (ok_bound (by show 0 ≤ q0.r ∧ q0.r < (q1.regs : Int); omega) i2) (COk.one (ok_sto i1 (by show 0 ≤ q0.r ∧ q0.r < (q1.regs : Int); omega) r1))), by show R ≤ q1.regs; omega, by show q1.regs ≤ _; omega, hV.mono (by show R ≤ q1.regs; omega)⟩
      · have hlen : t.len = 3 := hlen
        have hlo : loopsIn t loops = loops := by unfold loopsIn; rw [if_neg (by omega)]
        rw [hlo] at he hb
        rw [if_neg (by omega), Nat.add_zero] at hne
        have hs3 : Tree.sumTo (fun i => (t.kid i).size) t.len = 0 + (t.kid 0).size + (t.kid 1).size + (t.kid 2).size := by rw [hlen]; rfl
        unfold lowS
        rw [if_neg (by omega), if_pos hk]
        unfold ifL
        dsimp only
        have e0 := he 0 (by omega) (hkid 0 (by omega)) R V hV
        obtain ⟨e, hee⟩ : ∃ e, kidLE E t 0 V R = e := ⟨_, rfl⟩
        rw [hee] at e0 ⊢
        have l1 := e0.lo
        have l2 := e0.hi
        have b1 := hb 1 (by omega) (hkid 1 (by omega)) d (by have := hnk 1 (by omega); omega) (k + 1) [] e.regs V COk.nil (hV.mono l1)
        obtain ⟨s1, hs1⟩ : ∃ s1, kidL E t 1 d (k + 1) [] e.regs V = s1 := ⟨_, rfl⟩
        rw [hs1] at b1 ⊢
        have b2 := hb 2 (by omega) (hkid 2 (by omega)) d (by have := hnk 2 (by omega); omega) (k + 1 + s1.done.length + 1) [] s1.regs s1.vars COk.nil b1.vars
        obtain ⟨s2, hs2⟩ : ∃ s2, kidL E t 2 d (k + 1 + s1.done.length + 1) [] s1.regs s1.vars = s2 := ⟨_, rfl⟩
        rw [hs2] at b2 ⊢
        have l3 := b1.lo
        have l4 := b1.hi
        have l5 := b2.lo
        have l6 := b2.hi
        have r0 := e0.reg
        refine ⟨fun x hx => ?_, COk.nil, by show R ≤ s2.regs; omega, by show s2.regs ≤ _; omega, b2.vars⟩
        show COk ns s2.regs x.code ∧ BrOk s2.regs x
        simp only [List.mem_append, List.mem_cons, List.not_mem_nil, or_false] at hx
        rcases hx with ((rfl | hx) | (rfl | hx)) | rfl
        · exact ⟨(hc.mono (by omega)).app (e0.code.mono (by omega)), fun h0 => absurd (show (2 : Int) = 1 from h0) (by decide), fun _ => by show 0 ≤ e.r ∧ e.r < _; omega⟩
        · obtain ⟨a1, a2⟩ := b1.blocks x hx
          exact ⟨a1.mono l5, a2.mono l5⟩
        · exact ⟨b1.code.mono l5, BrOk.jmp⟩
        · exact b2.blocks x hx
        · exact ⟨b2.code, BrOk.jmp⟩
      · have hlen : t.len = 1 := hlen
        have hlo : loopsIn t loops = loops ++ [t.name] := by unfold loopsIn; rw [if_pos hk]
        rw [hlo] at hb
        rw [if_pos (.inl hk)] at hne
        have hs1 : Tree.sumTo (fun i => (t.kid i).size) t.len = 0 + (t.kid 0).size := by rw [hlen]; rfl
        have hn1 : 1 ≤ t.num := hn1
        have hn2 : t.num ≤ 1000 := hn2
        have hnew : ¬ (memB D.scalars t.name || memB loops t.name) = true := by
          intro hx
          rw [hk] at f0
          unfold faultN at f0
          rw [if_neg (by decide), if_neg (by decide), if_pos rfl, hx, Bool.true_or, if_pos rfl] at f0
          exact absurd f0 (by decide)
        unfold lowS
        rw [if_neg (by omega), if_neg (by omega), if_pos hk]
        dsimp only
        have hV' : VOk D (loops ++ [t.name]) (upd V t.name (some R)) (R + 3) := by
          intro s hs
          by_cases e : s = t.name
          · subst e; exact ⟨R, upd_same _ _ _, by omega⟩
          · rw [upd_other _ _ e]
            obtain ⟨r, h1, h2⟩ := hV s (by
              rw [memB_append] at hs
              have e2 : memB [t.name] s = false := by unfold memB; simp [Ne.symm e]
              rwa [e2, Bool.or_false] at hs)
            exact ⟨r, h1, by omega⟩
        have hq := loopL_ok (ns := ns) (D := D) (loops := loops ++ [t.name]) (lim := t.num) (dd := d) (h := forH t.num d R) (enter := fun V => upd V t.name (some R)) (b := kidL E t 0 (d + 1)) (k := k) (c := c) (V := V) (R := R) (szb := (t.kid 0).size) (by omega) (by have := hnk 0 (by omega); omega) hc (by show R ≤ R + 3; omega) (forH_ok (by have := hnk 0 (by omega); omega) ⟨hn1, hn2⟩) (by show 0 ≤ ((R + 2 : Nat) : Int) ∧ ((R + 2 : Nat) : Int) < ((R + 3 : Nat) : Int); omega)
          (fun c hc => hb 0 (by omega) (hkid 0 (by omega)) (d + 1) (by have := hnk 0 (by omega); omega) (k + 2) c (R + 3) _ hc hV')
        obtain ⟨s, hs⟩ : ∃ s, loopL t.num d (forH t.num d R) (fun V => upd V t.name (some R)) (kidL E t 0 (d + 1)) k c V = s := ⟨_, rfl⟩
        rw [hs] at hq ⊢
        have l1 : R + 3 ≤ s.regs := hq.lo
        have l2 : s.regs ≤ R + 3 + 3 * (t.kid 0).size := hq.hi
        refine ⟨hq.blocks, hq.code, by show R ≤ s.regs; omega, by show s.regs ≤ _; omega, fun x hx => ?_⟩
        have hne' : x ≠ t.name := by rintro rfl; exact hnew hx
        show ∃ r, upd s.vars t.name none x = some r ∧ r < s.regs
        rw [upd_other _ _ hne']
        exact hq.vars x (by
          rw [memB_append, ← Bool.or_assoc, hx, Bool.true_or])
      · have hlen : t.len = 2 := hlen
        have hlo : loopsIn t loops = loops := by unfold loopsIn; rw [if_neg (by omega)]
        rw [hlo] at he hb
        rw [if_pos (.inr hk)] at hne
        have hs2 : Tree.sumTo (fun i => (t.kid i).size) t.len = 0 + (t.kid 0).size + (t.kid 1).size := by rw [hlen]; rfl
        have hn1 : 1 ≤ t.num := hn1
        have hn2 : t.num ≤ 1000 := hn2
        unfold lowS
        rw [if_neg (by omega), if_neg (by omega), if_neg (by omega), if_pos hk]
        have e0 := he 0 (by omega) (hkid 0 (by omega)) R V hV
        obtain ⟨e, hee⟩ : ∃ e, kidLE E t 0 V R = e := ⟨_, rfl⟩
        rw [hee] at e0 ⊢
        have l1 := e0.lo
        have l2 := e0.hi
        have hq := loopL_ok (ns := ns) (D := D) (loops := loops) (lim := t.num) (dd := d) (h := e) (enter := fun V => V) (b := kidL E t 1 (d + 1)) (k := k) (c := c) (V := V) (R := R) (szb := (t.kid 1).size) (by omega) (by have := hnk 1 (by omega); omega) hc l1 e0.code e0.reg
          (fun c hc => hb 1 (by omega) (hkid 1 (by omega)) (d + 1) (by have := hnk 1 (by omega); omega) (k + 2) c e.regs V hc (hV.mono l1))
        have l3 := hq.lo
        have l4 := hq.hi
        exact ⟨hq.blocks, hq.code, by omega, by omega, hq.vars⟩
      · have hlen : t.len = 1 := hlen
        have hlo : loopsIn t loops = loops := by unfold loopsIn; rw [if_neg (by omega)]
        rw [hlo] at f1
        have g0 := f1 0 (by omega)
        obtain ⟨p0, p1⟩ := faultsV g0
        have hs1 : Tree.sumTo (fun i => (t.kid i).size) t.len = 0 + (t.kid 0).size := by rw [hlen]; rfl
        have hn1 : 0 ≤ t.num := hn1
        have hn2 : t.num ≤ 7 := hn2
        unfold lowS
        rw [if_neg (by omega), if_neg (by omega), if_neg (by omega), if_neg (by omega), if_pos hk]
        by_cases h2 : (t.kid 0).kind = 2
        · rw [if_pos h2]
          rw [h2] at p0
          have v1 := hV.reg (var_ok p0)
          exact ⟨fun b hb => (by cases hb), hc.app (COk.one (ok_in v1 ⟨hn1, hn2⟩)), Nat.le_refl _, by show R ≤ _; omega, hV⟩
        · rw [if_neg h2]
          dsimp only
          rcases vldP (hkid 0 (by omega)) with h3 | ⟨h3, h4, h5⟩
          · exact absurd h3 h2
          have hpl : loopsIn (t.kid 0) loops = loops := by unfold loopsIn; rw [if_neg (by omega)]
          have p2 := p1 0 (by omega)
          rw [hpl] at p2
          rw [h3] at p0
          obtain ⟨i1, i2⟩ := item_ok hE p0
          have e0 := lowE_ok hE ((t.kid 0).kid 0) h5 _ _ _ _ p2 R V hV
          have hsp := (t.kid 0).size_eq
          have hsq : Tree.sumTo (fun i => ((t.kid 0).kid i).size) (t.kid 0).len = 0 + ((t.kid 0).kid 0).size := by rw [h4]; rfl
          obtain ⟨q0, hq0⟩ : ∃ q, ((t.kid 0).kid 0).lowE E V R = q := ⟨_, rfl⟩
          rw [hq0] at e0 ⊢
          have l1 := e0.lo
          have l2 := e0.hi
          have r0 := e0.reg
          refine ⟨fun b hb => (by cases hb), ((hc.mono (by show R ≤ q0.regs + 1; omega)).app (e0.code.mono (by show q0.regs ≤ q0.regs + 1; omega))).app (COk.cons (ok_bound ?_ i2) (COk.cons (ok_in ?_ ⟨hn1, hn2⟩) (COk.one (ok_sto i1 ?_ ?_)))), by show R ≤ q0.regs + 1; omega, by show q0.regs + 1 ≤ _; omega, hV.mono (by show R ≤ q0.regs + 1; omega)⟩
          · show 0 ≤ q0.r ∧ q0.r < ((q0.regs + 1 : Nat) : Int); omega
          · show 0 ≤ ((q0.regs : Nat) : Int) ∧ ((q0.regs : Nat) : Int) < ((q0.regs + 1 : Nat) : Int); omega
          · show 0 ≤ q0.r ∧ q0.r < ((q0.regs + 1 : Nat) : Int); omega
          · show 0 ≤ ((q0.regs : Nat) : Int) ∧ ((q0.regs : Nat) : Int) < ((q0.regs + 1 : Nat) : Int); omega
      · have hlen : t.len = 1 := hlen
        have hlo : loopsIn t loops = loops := by unfold loopsIn; rw [if_neg (by omega)]
        rw [hlo] at he
        have hs1 : Tree.sumTo (fun i => (t.kid i).size) t.len = 0 + (t.kid 0).size := by rw [hlen]; rfl
        have hn1 : 0 ≤ t.num := hn1
        have hn2 : t.num ≤ 7 := hn2
        unfold lowS
        rw [if_neg (by omega), if_neg (by omega), if_neg (by omega), if_neg (by omega), if_neg (by omega), if_pos hk]
        have e0 := he 0 (by omega) (hkid 0 (by omega)) R V hV
        obtain ⟨e, hee⟩ : ∃ e, kidLE E t 0 V R = e := ⟨_, rfl⟩
        rw [hee] at e0 ⊢
        have l1 := e0.lo
        have l2 := e0.hi
        exact ⟨fun b hb => (by cases hb), ((hc.mono l1).app e0.code).app (COk.one (ok_out e0.reg ⟨hn1, hn2⟩)), l1, by show e.regs ≤ _; omega, hV.mono l1⟩
      · have hlen : t.len = 1 := hlen
        have hlo : loopsIn t loops = loops := by unfold loopsIn; rw [if_neg (by omega)]
        rw [hlo] at hb
        rw [if_neg (by omega), Nat.add_zero] at hne
        have hs1 : Tree.sumTo (fun i => (t.kid i).size) t.len = 0 + (t.kid 0).size := by rw [hlen]; rfl
        have hsym : lookB ns t.name = some false := by
          rw [hk] at f0
          unfold faultN at f0
          rw [if_neg (by decide), if_neg (by decide), if_neg (by decide), if_pos rfl] at f0
          by_cases h : memB D.shared t.name = true
          · exact (hE.obj _ h).1
          · rw [if_neg h] at f0; exact absurd f0 (by decide)
        unfold lowS
        rw [if_neg (by omega), if_neg (by omega), if_neg (by omega), if_neg (by omega), if_neg (by omega), if_neg (by omega), if_pos hk]
        dsimp only
        have hq := hb 0 (by omega) (hkid 0 (by omega)) d (by have := hnk 0 (by omega); omega) k (c ++ [insB 11 0 0 0 0 t.name]) R V (hc.app (COk.one (ok_lock (.inl rfl) hsym))) hV
        obtain ⟨s, hs⟩ : ∃ s, kidL E t 0 d k (c ++ [insB 11 0 0 0 0 t.name]) R V = s := ⟨_, rfl⟩
        rw [hs] at hq ⊢
        have l1 := hq.lo
        have l2 := hq.hi
        exact ⟨hq.blocks, hq.code.app (COk.one (ok_lock (.inr rfl) hsym)), l1, by show s.regs ≤ _; omega, hq.vars⟩
end
end Go.Proofs.YtkpdngfkdmllkaaDoor

/-
  Plain law of LowerValid, third part: the function of a task of a program without faults is valid. No walk here.
-/
namespace Go.Proofs.YtkpdngfkdmllkaaDoor
set_option linter.unusedVariables false
set_option linter.unusedSimpArgs false
open Go.RowKit
set_option maxRecDepth 100000

theorem declV {known : ByteArray → Bool} : ∀ (l so : List ByteArray), declF known so l = [] → (∀ x ∈ l, known x = false ∧ x ∉ so) ∧ l.Nodup := by
  intro l
  induction l with
  | nil => intro so _; exact ⟨fun x hx => (by cases hx), List.nodup_nil⟩
  | cons x l ih =>
    intro so h
    rw [declF, List.append_eq_nil_iff] at h
    obtain ⟨h1, h2⟩ := h
    obtain ⟨a1, a2⟩ := ih _ h2
    have hx : known x = false ∧ x ∉ so := by
      by_cases hc : (known x || memB so x) = true
      · rw [if_pos hc] at h1; cases h1
      · rw [Bool.not_eq_true, Bool.or_eq_false_iff] at hc
        refine ⟨hc.1, fun hm => ?_⟩
        have := memB_iff.2 hm
        rw [hc.2] at this
        cases this
    refine ⟨fun y hy => ?_, List.nodup_cons.2 ⟨fun hm => (a1 x hm).2 (List.mem_append_right _ (List.mem_singleton.2 rfl)), a2⟩⟩
    rcases List.mem_cons.1 hy with rfl | hy
    · exact hx
    · exact ⟨(a1 y hy).1, fun hm => (a1 y hy).2 (List.mem_append_left _ hm)⟩
theorem lookV_none {ns : List (ByteArray × Bool)} {s : ByteArray} (h : ∀ q ∈ ns, q.1 ≠ s) : lookB ns s = none := by
  unfold lookB
  rw [Option.map_eq_none_iff, List.find?_eq_none]
  intro q hq
  simpa using h q hq
theorem addArrs_ok : ∀ (l : List (ByteArray × Int)) (ns : List (ByteArray × Bool)), (∀ p ∈ l, 1 ≤ p.2 ∧ p.2 ≤ 32) → (∀ p ∈ l, ∀ q ∈ ns, q.1 ≠ p.1) → (l.map (·.1)).Nodup → addArrs ns l = some (ns ++ l.map fun p => (p.1, true)) := by
  intro l
  induction l with
  | nil => intro ns _ _ _; unfold addArrs; simp
  | cons p l ih =>
    intro ns h1 h2 h3
    have hp := h1 p (List.mem_cons_self ..)
    rw [List.map_cons, List.nodup_cons] at h3
    have e : lookB ns p.1 = none := lookV_none (h2 p (List.mem_cons_self ..))
    unfold addArrs
    rw [e, decide_eq_false (show ¬ p.2 < 1 by omega), decide_eq_false (show ¬ 32 < p.2 by omega)]
    show addArrs (ns ++ [(p.1, true)]) l = _
    rw [ih (ns ++ [(p.1, true)]) (fun q hq => h1 q (List.mem_cons_of_mem _ hq)) (fun q hq x hx => ?_) h3.2]
    · simp
    · rcases List.mem_append.1 hx with hx | hx
      · exact h2 q (List.mem_cons_of_mem _ hq) x hx
      · obtain rfl := List.mem_singleton.1 hx
        exact fun e => h3.1 (by rw [show p.1 = q.1 from e]; exact List.mem_map_of_mem hq)
theorem addObjs_ok : ∀ (l : List (ByteArray × Int)) (ns : List (ByteArray × Bool)), (∀ p ∈ l, ∀ q ∈ ns, q.1 ≠ p.1) → (l.map (·.1)).Nodup → addObjs ns l = some (ns ++ l.map fun p => (p.1, false)) := by
  intro l
  induction l with
  | nil => intro ns _ _; unfold addObjs; simp
  | cons p l ih =>
    intro ns h2 h3
    rw [List.map_cons, List.nodup_cons] at h3
    have e : lookB ns p.1 = none := lookV_none (h2 p (List.mem_cons_self ..))
    unfold addObjs
    rw [e]
    show addObjs (ns ++ [(p.1, false)]) l = _
    rw [ih (ns ++ [(p.1, false)]) (fun q hq x hx => ?_) h3.2]
    · simp
    · rcases List.mem_append.1 hx with hx | hx
      · exact h2 q (List.mem_cons_of_mem _ hq) x hx
      · obtain rfl := List.mem_singleton.1 hx
        exact fun e => h3.1 (by rw [show p.1 = q.1 from e]; exact List.mem_map_of_mem hq)
theorem lookV_app {a b : List (ByteArray × Bool)} {s : ByteArray} : lookB (a ++ b) s = (lookB a s).or (lookB b s) := by
  unfold lookB
  rw [List.find?_append]
  cases List.find? (fun p => decide (p.1 = s)) a <;> rfl
theorem lookV_all {l : List (ByteArray × Int)} {b : Bool} {s : ByteArray} (h : s ∈ l.map (·.1)) : lookB (l.map fun p => (p.1, b)) s = some b := by
  induction l with
  | nil => cases h
  | cons p l ih =>
    unfold lookB
    rw [List.map_cons, List.find?_cons]
    by_cases e : p.1 = s
    · simp [e]
    · rw [List.map_cons] at h
      rcases List.mem_cons.1 h with h | h
      · exact absurd h.symm e
      · have := ih h
        unfold lookB at this
        simp only [decide_eq_false e]
        exact this
theorem lenA_mem {s : ByteArray} : ∀ (l : List Arr), s ∈ l.map (·.name) → ∃ a ∈ l, lenA l s = a.len := by
  have key : ∀ n, ∀ (l : List Arr), l.length = n → s ∈ l.map (·.name) → ∃ a ∈ l, lenA l s = a.len := by
    intro n
    induction n with
    | zero => intro l hl h; rw [List.length_eq_zero_iff.1 hl] at h; cases h
    | succ n ih =>
      intro l hl h
      obtain ⟨l', a, rfl⟩ : ∃ l' a, l = l' ++ [a] := ⟨l.dropLast, l.getLast (by intro e; rw [e] at hl; cases hl), (List.dropLast_concat_getLast _).symm⟩
      rw [lenA_snoc]
      by_cases e : s = a.name
      · exact ⟨a, by simp, if_pos e⟩
      · rw [List.map_append, List.mem_append] at h
        rcases h with h | h
        · obtain ⟨x, h1, h2⟩ := ih l' (by simpa using hl) h
          exact ⟨x, List.mem_append_left _ h1, by show (if s = a.name then a.len else lenA l' s) = _; rw [if_neg e]; exact h2⟩
        · exact absurd (List.mem_singleton.1 h) e
  exact fun l h => key l.length l rfl h
theorem varsM_mem {l : List ByteArray} {s : ByteArray} : ∀ j, j ≤ l.length → s ∈ l.take j → ∃ r, varsM l j s = some r ∧ r < j := by
  intro j
  induction j with
  | zero => intro _ h; simp at h
  | succ j ih =>
    intro hj h
    unfold varsM
    by_cases e : s = l.getD j ⟨#[]⟩
    · rw [e]; exact ⟨j, upd_same _ _ _, by omega⟩
    · rw [upd_other _ _ e]
      have hx : l[j]? = some (l.getD j ⟨#[]⟩) := by rw [List.getD_eq_getElem?_getD, List.getElem?_eq_getElem (by omega)]; rfl
      rw [List.take_add_one, hx, List.mem_append] at h
      rcases h with h | h
      · obtain ⟨r, h1, h2⟩ := ih (by omega) h
        exact ⟨r, h1, by omega⟩
      · exact absurd (List.mem_singleton.1 h) e
theorem tskOk_more {t : Tsk} (h : tskOk t = true) : (∀ x ∈ t.arrays, arrOk x = true) ∧ t.body.nest ≤ 4 := by
  unfold tskOk at h
  simp only [Bool.and_eq_true, decide_eq_true_eq, List.all_eq_true] at h
  exact ⟨h.2.2.2.2.2.1, h.2.2.2.2.2.2.2.2.1⟩
theorem prgOk_objs {p : Prg} (h : prgOk p = true) : ∀ x ∈ p.shared, arrOk x = true := by
  unfold prgOk at h
  simp only [Bool.and_eq_true, decide_eq_true_eq, List.all_eq_true] at h
  exact h.2.2.1
theorem arrOk_len {a : Arr} (h : arrOk a = true) : 1 ≤ a.len ∧ a.len ≤ 32 := by
  unfold arrOk at h
  simp only [Bool.and_eq_true, decide_eq_true_eq] at h
  exact ⟨h.1.2, h.2⟩
/-- the names of a task's function -/
def nsOf (shared : List Arr) (t : Tsk) : List (ByteArray × Bool) := (t.arrays.map arrP).map (fun p => (p.1, true)) ++ (shared.map arrP).map (fun p => (p.1, false))
theorem map_arrP (l : List Arr) : (l.map arrP).map (·.1) = l.map (·.name) := by rw [List.map_map]; rfl
theorem lowFn_ok {p : Prg} {t : Tsk} (hok : okP p = true) (ht : tskOk t = true) (hft : taskF (p.shared.map (·.name)) t = []) : fnOk (lowFn p.shared t) (p.shared.map arrP) = true := by
  have hpr := okP_ok hok
  have hobj := prgOk_objs hpr
  obtain ⟨harr, hnest⟩ := tskOk_more ht
  obtain ⟨hv12, ha4, hs400⟩ := tskOk_le ht
  have hsh : declF (fun _ => false) [] (p.shared.map (·.name)) = [] := by
    unfold okP at hok
    rw [Bool.and_eq_true] at hok
    have h2 := hok.2
    unfold checkE at h2
    rw [if_pos hpr] at h2
    have h2 := List.isEmpty_iff.1 h2
    unfold checkF at h2
    rw [List.append_eq_nil_iff, List.map_eq_nil_iff] at h2
    exact h2.1
  unfold taskF at hft
  rw [List.append_eq_nil_iff] at hft
  obtain ⟨hd, hf⟩ := hft
  obtain ⟨_, hnS⟩ := declV _ _ hsh
  obtain ⟨hkn, hnV⟩ := declV _ _ hd
  have hnA : (t.arrays.map (·.name)).Nodup := (List.nodup_append.1 hnV).2.1
  have hAS : ∀ x ∈ t.arrays.map (·.name), x ∉ p.shared.map (·.name) := fun x hx hs => by
    have h1 := (hkn x (List.mem_append_right _ hx)).1
    rw [memB_iff.2 hs] at h1
    cases h1
  have hns : namesOf (lowFn p.shared t) (p.shared.map arrP) = some (nsOf p.shared t) := by
    unfold namesOf
    have e1 : addArrs [] (lowFn p.shared t).arrays = some ([] ++ (t.arrays.map arrP).map fun p => (p.1, true)) := addArrs_ok _ _ (fun q hq => by
      obtain ⟨a, ha, rfl⟩ := List.mem_map.1 hq
      exact arrOk_len (harr a ha)) (fun _ _ q hq => (by cases hq)) (by rw [show (lowFn p.shared t).arrays = t.arrays.map arrP from rfl, map_arrP]; exact hnA)
    rw [e1, List.nil_append]
    show addObjs _ _ = _
    rw [addObjs_ok _ _ (fun q hq x hx => ?_) (by rw [map_arrP]; exact hnS)]
    · rfl
    · obtain ⟨y, hy, rfl⟩ := List.mem_map.1 hx
      obtain ⟨a, ha, rfl⟩ := List.mem_map.1 hy
      obtain ⟨b, hb, rfl⟩ := List.mem_map.1 hq
      exact fun e => hAS a.name (List.mem_map_of_mem ha) (by rw [show a.name = b.name from e]; exact List.mem_map_of_mem hb)
  have hlen : ∀ s, s ∈ (p.shared ++ t.arrays).map (·.name) → 1 ≤ (envOf p.shared t.arrays).len s ∧ (envOf p.shared t.arrays).len s ≤ 131071 := fun s hs => by
    obtain ⟨a, ha, e⟩ := lenA_mem _ hs
    show 1 ≤ lenA (p.shared ++ t.arrays) s ∧ _
    have h9 : 1 ≤ a.len ∧ a.len ≤ 32 := by
      rcases List.mem_append.1 ha with h | h
      · exact arrOk_len (hobj a h)
      · exact arrOk_len (harr a h)
    have e2 : (envOf p.shared t.arrays).len s = a.len := e
    rw [e2, e]
    omega
  have hE : EnvOk (envOf p.shared t.arrays) (nsOf p.shared t) ⟨p.shared.map (·.name), t.vars, t.arrays.map (·.name)⟩ := by
    refine ⟨fun s hs => ?_, fun s hs => ?_⟩
    · have hs := memB_iff.1 hs
      refine ⟨?_, ?_, hlen s (by rw [List.map_append]; exact List.mem_append_right _ hs)⟩
      · unfold nsOf
        rw [lookV_app, lookV_all (by rw [map_arrP]; exact hs)]
        rfl
      · show shA p.shared s = false
        unfold shA
        rw [List.any_eq_false]
        intro a ha
        simp only [decide_eq_true_eq]
        exact fun e => hAS s hs (by rw [e]; exact List.mem_map_of_mem ha)
    · have hs := memB_iff.1 hs
      refine ⟨?_, ?_, hlen s (by rw [List.map_append]; exact List.mem_append_left _ hs)⟩
      · unfold nsOf
        rw [lookV_app, lookV_none, lookV_all (by rw [map_arrP]; exact hs)]
        · rfl
        · intro q hq e
          obtain ⟨y, hy, rfl⟩ := List.mem_map.1 hq
          obtain ⟨a, ha, rfl⟩ := List.mem_map.1 hy
          exact hAS a.name (List.mem_map_of_mem ha) (by rw [show a.name = s from e]; exact hs)
      · show shA p.shared s = true
        unfold shA
        rw [List.any_eq_true]
        obtain ⟨a, ha, rfl⟩ := List.mem_map.1 hs
        exact ⟨a, ha, by simp⟩
  have hV : VOk ⟨p.shared.map (·.name), t.vars, t.arrays.map (·.name)⟩ [] (varsM t.vars t.vars.length) t.vars.length := fun s hs => by
    have hs : s ∈ t.vars := by
      have e : memB [] s = false := rfl
      rw [e, Bool.or_false] at hs
      exact memB_iff.1 hs
    exact varsM_mem _ (Nat.le_refl _) (by rw [List.take_length]; exact hs)
  have hb := tskOk_body ht
  have hS : SOkL (nsOf p.shared t) ⟨p.shared.map (·.name), t.vars, t.arrays.map (·.name)⟩ [] t.vars.length t.body.size (lowS0 p.shared t) := low_ok hE t.body (.inl hb) _ _ _ _ hf 0 (by omega) 0 [] _ _ COk.nil hV
  have hT := lowFn_tgt p.shared t hb
  have hlo := hS.lo
  have hhi := hS.hi
  unfold fnOk
  rw [hns]
  have e0 : (lowFn p.shared t).blocks.length = (lowS0 p.shared t).done.length + 1 := by
    show ((lowS0 p.shared t).done ++ _).length = _
    rw [List.length_append]
    rfl
  have e1 : ((lowFn p.shared t).blocks.length == 0) = false := by rw [e0]; simp
  have e2 : (lowFn p.shared t).regs = (((lowS0 p.shared t).regs : Nat) : Int) := rfl
  have e3 : (lowFn p.shared t).arrays.length ≤ 4 := by show (t.arrays.map arrP).length ≤ 4; rw [List.length_map]; exact ha4
  rw [e1, decide_eq_true (show 0 ≤ (lowFn p.shared t).regs by rw [e2]; omega), decide_eq_true (show (lowFn p.shared t).regs ≤ 10000 by rw [e2]; omega), decide_eq_true e3]
  show (lowFn p.shared t).blocks.all (blkOk (lowFn p.shared t) (nsOf p.shared t)) = true
  rw [List.all_eq_true]
  intro x hx
  have hx2 : x ∈ (lowS0 p.shared t).done ++ [⟨(lowS0 p.shared t).code, 3, 0, 0, 0⟩] := hx
  have hbl : COk (nsOf p.shared t) (lowS0 p.shared t).regs x.code ∧ BrOk (lowS0 p.shared t).regs x ∧ (x.kind = 3 → x.x = 0) := by
    rcases List.mem_append.1 hx2 with h | h
    · obtain ⟨a1, a2⟩ := hS.blocks x h
      refine ⟨a1, a2, fun e => ?_⟩
      have h9 := low_tgt (envOf p.shared t.arrays) t.body (.inl hb) 0 0 [] t.vars.length (varsM t.vars t.vars.length) x h
      have := h9.1
      omega
    · obtain rfl := List.mem_singleton.1 h
      exact ⟨hS.code, ⟨fun e => absurd (show (3 : Int) = 1 from e) (by decide), fun e => absurd (show (3 : Int) = 2 from e) (by decide)⟩, fun _ => rfl⟩
  obtain ⟨hc, hbr, hx3⟩ := hbl
  unfold blkOk
  rw [Bool.and_eq_true]
  refine ⟨List.all_eq_true.2 (fun i hi => hc i hi), ?_⟩
  unfold endOk
  rcases hT x hx with ⟨k, k1, k2⟩ | ⟨k, ⟨k1, k2⟩, k3, k4⟩
  · rw [k, k1, k2, hx3 k]; rfl
  · rcases k with k | k
    · obtain ⟨a1, a2⟩ := hbr.1 k
      rw [k, a1, a2, decide_eq_true k1, decide_eq_true k2]; rfl
    · obtain ⟨a1, a2⟩ := hbr.2 k
      rw [k, e2, decide_eq_true a1, decide_eq_true a2, decide_eq_true k1, decide_eq_true k2, decide_eq_true k3, decide_eq_true k4]; rfl
end Go.Proofs.YtkpdngfkdmllkaaDoor

/-
  LowerValid (package ontimelaw18): the function is valid, and has the name and the arrays of the task.
-/
namespace Go.Proofs.YtkpdngfkdmllkaaDoor
set_option linter.unusedVariables false
set_option linter.unusedSimpArgs false
open Go.RowKit
set_option maxRecDepth 100000
set_option maxHeartbeats 8000000

theorem arrV_eql (W : World) (x : Arr) : (binOp .neq 40 (.agg #[.string x.name, .int .i64 x.len]) (.agg #[.string x.name, .int .i64 x.len])).run Tryd.prog W = .ok (.bool false) W := by
  have u3 := Tryd.underlying3
  have a3 := Tryd.isAgg3
  have z3 := Tryd.sizeOf3
  have u9 := Tryd.underlying9
  have a9 := Tryd.isAgg9
  have z9 := Tryd.sizeOf9
  have hS : Tryd.prog.underlying 40 = some (.struct (Tryd.prog.fieldsOf 40)) := by kernel_rfl
  have hp : Tryd.prog.stoodInHeld 40 = false := by kernel_rfl
  rw [run_neq_struct, show (10000 : Nat) = 9999 + 1 from rfl, run_equalIn_agg W 9999 40 _ _ hS hp]
  simp only [Program.fieldsOf, Tryd.underlying40]
  go_simp
theorem okP_task {p : Prg} (h : okP p = true) {j : Nat} (hj : j < p.tasks.length) : taskF (p.shared.map (·.name)) (p.tasks.getD j Tsk.none) = [] := by
  have hp := okP_ok h
  unfold okP at h
  rw [Bool.and_eq_true] at h
  have h2 := h.2
  unfold checkE at h2
  rw [if_pos hp] at h2
  have h2 := List.isEmpty_iff.1 h2
  unfold checkF at h2
  rw [List.append_eq_nil_iff, List.map_eq_nil_iff] at h2
  exact tasksF_none _ _ _ h2.2 _ (by simp [hj])
theorem lowerValid_any (p : Prg) (k : Int) (w : World) (sa ta : Option Addr) (sc tc : Nat) (hp : PrgAt w p sa ta) (hg : SignsIn w) (hk : isI64 k) :
    Calls Tryd.prog 3 #[p.val sa sc ta tc, .int .i64 k] w fun e w' => e = .returned (.bool true) ∧ Below w.heap.size w w' := by
  have htl := hp.2.1
  have HKK := Lib.hid hk
  have hk1 := hk.1
  have hk2 := hk.2
  obtain ⟨A0, h0⟩ : ∃ A0 : World, w.alloc (prgObj p sa sc ta tc) = A0 := ⟨_, rfl⟩
  have HB0 : Hid (Below w.heap.size w A0) := by show Below _ _ _; rw [← h0]; exact mem_alloc _ _
  have HX0 : Hid (A0.heap[w.heap.size]? = some (prgObj p sa sc ta tc)) := by show _ = _; rw [← h0]; exact mem_new _ _
  have HK : Hid (∀ w', Below A0.heap.size A0 w' → w'.heap[w.heap.size]? = some (prgObj p sa sc ta tc) ∧ PrgAt w' p sa ta ∧ Below w.heap.size w w' ∧ SignsIn w') := fun w' h =>
    ⟨mem_keep HX0.out h, hp.below (mem_then HB0.out h), mem_then HB0.out h, hg.below (mem_then HB0.out h)⟩
  clear hp hg hk
  go_enter Tryd.func3, Tryd.ntmps3
  go_wp2_with fail
  clear h0
  refine (lawake_any A0 (HK.out A0 (Below.refl _ _)).2.2.2).mono ?_
  rintro e w1 ⟨rfl, hB1⟩
  have HB1 := Lib.hid hB1
  have y0 : w1.cell? ⟨w.heap.size, 0, none⟩ = some (.slice sa p.shared.length sc) := mem_cell (HK.out w1 hB1).1 0
  have y1 : w1.cell? ⟨w.heap.size, 1, none⟩ = some (.slice ta p.tasks.length tc) := mem_cell (HK.out w1 hB1).1 1
  clear hB1
  go_wp2_with fail
  clear y0 y1
  refine (translated_fn p k w1 sa ta sc tc (HK.out w1 HB1.out).2.1 (HK.out w1 HB1.out).2.2.2 HKK.out).mono ?_
  rintro e w2 ⟨F, b, aa, ac, ba, bc, rfl, hfn, hB2, hyes⟩
  have HB2 := Lib.hid (mem_then HB1.out hB2)
  obtain ⟨an, hn1⟩ : ∃ n, F.arrays.length = n := ⟨_, rfl⟩
  obtain ⟨bn, hn2⟩ : ∃ n, F.blocks.length = n := ⟨_, rfl⟩
  have HNN : Hid (F.arrays.length = an ∧ F.blocks.length = bn) := ⟨hn1, hn2⟩
  simp only [hn1, hn2]
  obtain ⟨V, hV⟩ : ∃ X : World, w2.alloc (fnObj F.name F.regs (.slice aa an ac) (.slice ba bn bc)) = X := ⟨_, rfl⟩
  have HV0 : Hid (Below w2.heap.size w2 V) := by show Below _ _ _; rw [← hV]; exact mem_alloc _ _
  have HVX : Hid (V.heap[w2.heap.size]? = some (fnObj F.name F.regs (.slice aa an ac) (.slice ba bn bc))) := by show _ = _; rw [← hV]; exact mem_new _ _
  have HFN := Lib.hid (hfn.at_.below HV0.out)
  have HV := Lib.hid (mem_then HB2.out HV0.out)
  clear hfn hB2 hn1 hn2
  cases b with
  | false =>
    clear hyes
    go_wp2_with fail
    go_ret
    exact ⟨rfl, (HK.out V HV.out).2.2.1⟩
  | true =>
  obtain ⟨hok, ⟨hk0, hkl⟩, hF⟩ := hyes rfl
  have HOK := Lib.hid hok
  have HF := Lib.hid hF
  obtain ⟨j, rfl⟩ : ∃ j : Nat, k = (j : Int) := ⟨k.toNat, by omega⟩
  have hj : j < p.tasks.length := by omega
  have HJ := Lib.hid hj
  obtain ⟨tb, to', q, rfl, htc, htin⟩ := (HK.out V HV.out).2.1.2.2 j hj
  obtain ⟨t, ht⟩ : ∃ t, p.tasks.getD j Tsk.none = t := ⟨_, rfl⟩
  have HT := Lib.hid ht
  rw [ht] at htc htin
  have HTI := Lib.hid htin
  have htv := (prgOk_le (okP_ok HOK.out)).2.2 j hj
  have htf := okP_task HOK.out hj
  rw [HT.out] at htv htf
  have HTV := Lib.hid htv
  have HLF : Hid (F = lowFn p.shared t) := by show _ = _; rw [HF.out, Int.toNat_natCast, HT.out]
  have HFOK : Hid (fnOk F (p.shared.map arrP) = true) := by show _ = _; rw [HLF.out]; exact lowFn_ok HOK.out htv htf
  have HNM : Hid (F.name = t.name) := by show _ = _; rw [HLF.out]; rfl
  have HAR : Hid (F.arrays = t.arrays.map arrP) := by show _ = _; rw [HLF.out]; rfl
  have HAN : Hid (t.arrays.length = an) := by have h := HNN.out.1; rw [HAR.out, List.length_map] at h; exact h
  obtain ⟨⟨g0, g1, g2, g3, g4, g5, g6, g7⟩, _⟩ := tsk_cells (Below.refl _ _) htc
  rw [HAN.out] at g3
  have y1 : V.cell? ⟨w.heap.size, 1, none⟩ = some (.slice (some ⟨tb, to', none⟩) p.tasks.length tc) := mem_cell (HK.out V HV.out).1 1
  obtain ⟨E, hE⟩ : ∃ X : World, V.alloc (.cells #[.string t.name, .int .i64 t.period, .slice q.va t.vars.length q.vc, .slice q.aa an q.ac, .int .u8 t.body.kind, .int .i64 t.body.num, .string t.body.name, .slice q.ka t.body.len q.kc] 37) = X := ⟨_, rfl⟩
  have HBE : Hid (Below V.heap.size V E) := by show Below _ _ _; rw [← hE]; exact mem_alloc _ _
  have HXE : Hid (E.heap[V.heap.size]? = some (.cells #[.string t.name, .int .i64 t.period, .slice q.va t.vars.length q.vc, .slice q.aa an q.ac, .int .u8 t.body.kind, .int .i64 t.body.num, .string t.body.name, .slice q.ka t.body.len q.kc] 37)) := by show _ = _; rw [← hE]; exact mem_new _ _
  have HBE2 := Lib.hid (mem_then HV.out HBE.out)
  have y0 : E.cell? ⟨w.heap.size, 0, none⟩ = some (.slice sa p.shared.length sc) := mem_cell (HK.out E HBE2.out).1 0
  have HVF : Hid (∀ w', Below E.heap.size E w' → (w'.cell? ⟨w2.heap.size, 0, none⟩ = some (.string F.name) ∧ w'.cell? ⟨w2.heap.size, 1, none⟩ = some (.int .i64 F.regs) ∧ w'.cell? ⟨w2.heap.size, 2, none⟩ = some (.slice aa an ac) ∧ w'.cell? ⟨w2.heap.size, 3, none⟩ = some (.slice ba bn bc)) ∧ FnAt w' F aa ba) := fun w' h => by
    obtain ⟨v0, v1, v2, v3, _⟩ := fn_four (mem_keep HVX.out (mem_then HBE.out h))
    exact ⟨⟨v0, v1, v2, v3⟩, HFN.out.below (mem_then HBE.out h)⟩
  obtain ⟨⟨v0, v1, v2, v3⟩, _⟩ := HVF.out E (Below.refl _ _)
  have hsl : p.shared.length ≤ 9223372036854775807 := (HK.out E HBE2.out).2.1.1.1
  have hq := ir_valid_any F (p.shared.map arrP) aa ba sa ac bc sc E (HVF.out E (Below.refl _ _)).2 (arrs_ir (HK.out E HBE2.out).2.1.1) (by rw [List.length_map]; have := (prgOk_le (okP_ok HOK.out)).1; omega)
  rw [HNN.out.1, HNN.out.2, List.length_map, HFOK.out] at hq
  have HQ := Lib.hid hq
  clear hyes hok hF htc htin ht htv htf hq
  go_wp2_with fail
  clear hV hE g0 g1 g2 g3 g4 g5 g6 g7 y0 y1 v0 v1 v2 v3
  refine HQ.out.mono ?_
  rintro e w4 ⟨rfl, hB4⟩
  have HB40 := Lib.hid hB4
  obtain ⟨⟨v0, v1, v2, v3⟩, _⟩ := HVF.out w4 hB4
  rw [HNM.out] at v0
  have z0 : w4.cell? ⟨V.heap.size, 0, none⟩ = some (.string t.name) := mem_cell (mem_keep HXE.out hB4) 0
  have z3 : w4.cell? ⟨V.heap.size, 3, none⟩ = some (.slice q.aa an q.ac) := mem_cell (mem_keep HXE.out hB4) 3
  have hai : an ≤ 9223372036854775807 := by rw [← HNN.out.1]; exact HFN.out.arrays.fits
  clear hB4 HQ
  go_wp2_with fail
  clear v0 v1 v2 v3 z0 z3
  go_loopw [48] (fun iv wr => ∃ d : Nat, d ≤ an ∧ iv = .int .i64 (d : Int) ∧ Below w4.heap.size w4 wr) (fun iv _ => an - (intOf iv).toNat)
  case atStart => exact ⟨0, Nat.zero_le _, rfl, Below.refl _ _⟩
  case round =>
    obtain ⟨d, hd, rfl, hB⟩ := hrel
    have HB := Lib.hid hB
    have hd0 : (0 : Int) ≤ (d : Int) := by omega
    have HBR := Lib.hid (mem_then HB40.out hB)
    clear hB
    by_cases hlt : d < an
    · have HLT : Hid (d < an) := hlt
      have hlt2 : (d : Int) < (an : Int) := by omega
      obtain ⟨gb, go', haa, hax⟩ := HTI.out.arrays.2 d (by rw [HAN.out]; exact hlt)
      obtain ⟨x, hx⟩ : ∃ x, t.arrays.getD d Arr.none = x := ⟨_, rfl⟩
      rw [hx] at hax
      obtain ⟨e0, e1, _, _⟩ := hax
      have hfx : F.arrays[d]? = some (arrP x) := by
        rw [HAR.out, List.getElem?_map, ← hx, List.getD_eq_getElem?_getD, List.getElem?_eq_getElem (by rw [HAN.out]; exact hlt)]
        rfl
      rcases HFN.out.arrays.at_ with h0 | ⟨fb, fo, rfl, hcs⟩
      · exfalso; rw [HNN.out.1] at h0; omega
      obtain ⟨f0, f1⟩ := hcs d _ hfx
      have hbq := mem_then HBE.out HBR.out
      have b0 := cell_below hbq e0
      have b1 := cell_below hbq e1
      have c0 : wr.cell? ⟨fb, fo + d * 2, none⟩ = some (.string x.name) := cell_below hbq f0
      have c1 : wr.cell? ⟨fb, fo + d * 2 + 1, none⟩ = some (.int .i64 x.len) := cell_below hbq f1
      obtain ⟨⟨v0, v1, v2, v3⟩, _⟩ := HVF.out wr HBR.out
      have z3 : wr.cell? ⟨V.heap.size, 3, none⟩ = some (.slice (some ⟨gb, go', none⟩) an q.ac) := by rw [← haa]; exact mem_cell (mem_keep HXE.out HBR.out) 3
      have hcmp : ∀ W, (binOp .neq 40 (.agg #[.string x.name, .int .i64 x.len]) (.agg #[.string x.name, .int .i64 x.len])).run Tryd.prog W = .ok (.bool false) W := fun W => arrV_eql W x
      clear hlt hx hfx hcs e0 e1 f0 f1 hbq haa
      go_wp2_with fail
      go_region
      go_wp2_with fail
      clear b0 b1 c0 c1 v0 v1 v2 v3 z3 hcmp
      go_roundw
      case rel => exact ⟨d + 1, by have := HLT.out; omega, by go_num, HB.out.drew⟩
      case measure => have := HLT.out; simp [intOf]; omega
    · obtain rfl : d = an := by omega
      clear hlt
      go_wp2_with fail
      go_ret
      exact ⟨rfl, (HK.out wr (mem_then HBE2.out HBR.out)).2.2.1⟩
end Go.Proofs.YtkpdngfkdmllkaaDoor

/-
  A node that reads as data lies in memory as a tree.
-/
namespace Go.Proofs.YtkpdngfkdmllkaaDoor
set_option linter.unusedVariables false
set_option linter.unusedSimpArgs false
open Go.ChangeShapes Go.WideShapes Go.ChangeAt Go.RowKit

theorem cellsNode : Tryd.prog.cellsOf 35 = 4 := by kernel_rfl
theorem cellsNode0 : Tryd.prog.cellsOf 5 = 1 := by kernel_rfl
theorem cellsNode1 : Tryd.prog.cellsOf 3 = 1 := by kernel_rfl
theorem cellsNode2 : Tryd.prog.cellsOf 9 = 1 := by kernel_rfl
theorem cellsNode3 : Tryd.prog.cellsOf 33 = 1 := by kernel_rfl

theorem list4 {l : List Value} (h : l.length = 4) : ∃ a b c d, l = [a, b, c, d] := by
  match l, h with
  | [a, b, c, d], _ => exact ⟨a, b, c, d, rfl⟩

theorem le_max {n : Nat} (h : n ≤ maxLen) : n ≤ 9223372036854775807 := by unfold maxLen at h; omega

section
variable {H : Type} {enc : TypeId × Value → H} {w : World} {base : Nat} {sp : Nat → Bool} {held : Bool}
theorem tree_open (fuel : Nat) : ∀ (cs : List Value) (x : DataW H × List MemPlace), DataW.trod enc Tryd.prog w base sp held fuel 35 cs = some x →
    ∃ (t : Tree) (a : Option Addr) (c : Nat), cs = [.int .u8 t.kind, .int .i64 t.num, .string t.name, .slice a t.len c] ∧ Rep w t a := by
  induction fuel with
  | zero => intro cs x h; simp [DataW.trod] at h
  | succ fuel ih =>
    intro cs x h
    obtain ⟨xs, n, hn, rfl, hl, hxl, hf⟩ := DataW.trod_struct Tryd.underlying35 h
    obtain rfl : fuel = n := by omega
    rw [cellsNode] at hl
    obtain ⟨c0, c1, c2, c3, rfl⟩ := list4 hl
    match xs, hxl with
    | [y0, y1, y2, y3], _ =>
      have h0 : DataW.trod enc Tryd.prog w base sp held fuel 5 (([c0, c1, c2, c3].drop 0).take (Tryd.prog.cellsOf 5)) = [y0, y1, y2, y3][0]? := hf 0 _ rfl
      have h1 : DataW.trod enc Tryd.prog w base sp held fuel 3 (([c0, c1, c2, c3].drop 1).take (Tryd.prog.cellsOf 3)) = [y0, y1, y2, y3][1]? := hf 1 _ rfl
      have h2 : DataW.trod enc Tryd.prog w base sp held fuel 9 (([c0, c1, c2, c3].drop 2).take (Tryd.prog.cellsOf 9)) = [y0, y1, y2, y3][2]? := hf 2 _ rfl
      have h3 : DataW.trod enc Tryd.prog w base sp held fuel 33 (([c0, c1, c2, c3].drop 3).take (Tryd.prog.cellsOf 33)) = [y0, y1, y2, y3][3]? := hf 3 _ rfl
      rw [cellsNode0] at h0
      rw [cellsNode1] at h1
      rw [cellsNode2] at h2
      rw [cellsNode3] at h3
      simp only [List.drop_zero, List.drop_succ_cons, List.take_succ_cons, List.take_zero, List.getElem?_cons_zero, List.getElem?_cons_succ] at h0 h1 h2 h3
      obtain ⟨k, hk, _, wk⟩ := DataW.trod_int Tryd.underlying5 h0
      obtain ⟨m, hm, _, wm⟩ := DataW.trod_int Tryd.underlying3 h1
      obtain ⟨s, hs, _, ws⟩ := DataW.trod_string Tryd.underlying9 h2
      cases hk; cases hm; cases hs
      have bk : 0 ≤ k ∧ k ≤ 255 := by simpa [Lit.wf, IntKind.min, IntKind.max, IntKind.signed, IntKind.bits] using wk
      have bm : -9223372036854775808 ≤ m ∧ m ≤ 9223372036854775807 := by simpa [Lit.wf, IntKind.min, IntKind.max, IntKind.signed, IntKind.bits] using wm
      have ws' : s.size ≤ 9223372036854775807 := le_max ws
      clear ws
      rcases DataW.trod_slice Tryd.underlying33 h3 with ⟨h4, _⟩ | ⟨a, len, cap, elems, rest, n', hn', h4, _, hb, hlc, hcm, hel, hel2, _, _⟩
      · cases h4
        exact ⟨Tree.leaf k m s, none, 0, rfl, Rep.mk ⟨bk, bm, ws', Nat.zero_le _⟩ (.inl rfl)⟩
      · cases h4
        have hcm' : cap ≤ 9223372036854775807 := le_max hcm
        clear hcm
        obtain rfl : fuel = n' + 1 := hn'
        have hspot : 0 < len → a.spot = none := by
          intro h0
          have hi2 := hel2 0 h0
          rw [Nat.zero_mul, cellsNode] at hi2
          obtain ⟨y, hy⟩ : ∃ y, elems[0]? = some y := ⟨_, List.getElem?_eq_getElem (by omega)⟩
          rw [hy] at hi2
          obtain ⟨cs', hc1, hc2⟩ := Option.bind_eq_some_iff.1 hi2
          obtain ⟨t, ai, ci, rfl, hr⟩ := ih _ _ (DataW.trod_succ _ _ _ _ hc2)
          obtain ⟨_, _, hcs⟩ := World.cells?_some hc1
          have e0 := hcs 0 (by omega)
          have h9 : (a.add 0).add 0 = a := by simp [Addr.add]
          rw [h9] at e0
          cases hq : a.spot with
          | none => rfl
          | some q =>
            unfold World.cell? at e0
            rw [hq] at e0
            split at e0 <;> simp at e0
        have each : ∀ i, ∃ (t : Tree), i < len → ∃ (ai : Option Addr) (ci : Nat), NodeAt w a.block (a.off + i * 4) t ai ci ∧ Rep w t ai := by
          intro i
          by_cases hi : i < len
          · have hi2 := hel2 i hi
            rw [cellsNode] at hi2
            obtain ⟨y, hy⟩ : ∃ y, elems[i]? = some y := ⟨_, List.getElem?_eq_getElem (by omega)⟩
            rw [hy] at hi2
            obtain ⟨cs', hc1, hc2⟩ := Option.bind_eq_some_iff.1 hi2
            obtain ⟨t, ai, ci, rfl, hr⟩ := ih _ _ (DataW.trod_succ _ _ _ _ hc2)
            obtain ⟨_, _, hcs⟩ := World.cells?_some hc1
            obtain ⟨ab, ao, asp⟩ := a
            obtain rfl : asp = none := hspot (by omega)
            have hadd : ∀ d, ((⟨ab, ao, none⟩ : Addr).add (i * 4)).add d = ⟨ab, ao + i * 4 + d, none⟩ := by
              intro d
              unfold Addr.add
              by_cases h1 : i * 4 = 0 <;> by_cases h2 : d = 0 <;> simp [h1, h2]
              all_goals omega
            have e0 := hcs 0 (by omega)
            have e1 := hcs 1 (by omega)
            have e2 := hcs 2 (by omega)
            have e3 := hcs 3 (by omega)
            rw [hadd] at e0 e1 e2 e3
            exact ⟨t, fun _ => ⟨ai, ci, ⟨e0, e1, e2, e3⟩, hr⟩⟩
          · exact ⟨Tree.leaf 0 0 s, fun h => absurd h hi⟩
        obtain ⟨f, hf⟩ := Classical.axiomOfChoice each
        refine ⟨Tree.make k m s len f, some a, cap, rfl, Rep.mk ⟨bk, bm, ws', by show len ≤ _; omega⟩ ?_⟩
        by_cases h0 : 0 < len
        · obtain ⟨ab, ao, asp⟩ := a
          obtain rfl : asp = none := hspot h0
          refine .inr ⟨ab, ao, rfl, fun i hi => ?_⟩
          obtain ⟨ai, ci, h1, h2⟩ := hf i hi
          exact ⟨ai, ci, by rw [Tree.make_kid (show i < len from hi)]; exact h1, by rw [Tree.make_kid (show i < len from hi)]; exact h2⟩
        · exact .inl (show len = 0 by omega)
end
end Go.Proofs.YtkpdngfkdmllkaaDoor
