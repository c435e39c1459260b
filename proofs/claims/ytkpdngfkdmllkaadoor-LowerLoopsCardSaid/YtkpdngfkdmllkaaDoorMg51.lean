/-
  Mg51: several texts in one (LowTrans, LowLocksP, AppSt, LowLocks1, LowLocks2, LowLoopsP, LowLoops1, LowLoops2, LowTgtP, LowPosP, LowPosQ, LowLoopsQ, LowLoops3, LowLoops4, TreeOpen).
-/
import Derived.Test.YtkpdngfkdmllkaaDoorMg50
import Derived.Test.YtkpdngfkdmllkaaDoorMg36
import Derived.Test.YtkpdngfkdmllkaaDoorMg40
import Derived.Test.YtkpdngfkdmllkaaDoorMg6
import Derived.Test.YtkpdngfkdmllkaaDoorMg5
import Derived.Deep.RegionHeld
import Derived.OrdersHeld
import Derived.Deep.Cut
import Derived.Deep.CutRange
import Derived.Deep.DeepCutAuto
import Derived.Deep.CutBlock
import Derived.Test.YtkpdngfkdmllkaaDoorMg34
import Derived.DeepKeys
import Derived.Test.YtkpdngfkdmllkaaDoorRows
import Derived.Test.YtkpdngfkdmllkaaDoorMg0
import Derived.ProofKit
import Derived.OpenShut
import Derived.Lib.SmallJoins
import Derived.WideKeyArgs
/-
  Contract: translated (package ontimelaw18).
-/
namespace Go.Proofs.YtkpdngfkdmllkaaDoor
set_option linter.unusedVariables false
set_option linter.unusedSimpArgs false
open Go.RowKit Go.Maps
set_option maxRecDepth 100000
set_option maxHeartbeats 8000000

/-- what translated answers -/
def TransRet (p : Prg) (k : Int) (w : World) (e : Ending) (w' : World) : Prop := ∃ F b aa ac ba bc, e = .returned (.tuple #[fnVal F.name F.regs aa F.arrays.length ac ba F.blocks.length bc, .bool b]) ∧ FnNew w.heap.size w' F aa ba ∧ Below w.heap.size w w' ∧
  (b = true → okP p = true ∧ (0 ≤ k ∧ k < p.tasks.length) ∧ F = lowFn p.shared (p.tasks.getD k.toNat Tsk.none))
theorem TransRet.no {p : Prg} {k : Int} {w w' : World} (h : Below w.heap.size w w') : TransRet p k w (.returned (.tuple #[fnVal ⟨#[]⟩ 0 none 0 0 none 0 0, .bool false])) w' :=
  ⟨Fn.zero, false, none, 0, none, 0, rfl, Fn.zero_at _ _, h, fun h => nomatch h⟩
theorem translated_fn (p : Prg) (k : Int) (w : World) (sa ta : Option Addr) (sc tc : Nat) (hp : PrgAt w p sa ta) (hg : SignsIn w) (hk : isI64 k) :
    Calls Tryd.prog 9 #[p.val sa sc ta tc, .int .i64 k] w (TransRet p k w) := by
  have htl := hp.2.1
  have HKK := Lib.hid hk
  have hk1 := hk.1
  have hk2 := hk.2
  obtain ⟨A0, h0⟩ : ∃ A0 : World, w.alloc (prgObj p sa sc ta tc) = A0 := ⟨_, rfl⟩
  obtain ⟨A1, h1⟩ : ∃ A1 : World, A0.alloc (fnObj ⟨#[]⟩ 0 (.slice none 0 0) (.slice none 0 0)) = A1 := ⟨_, rfl⟩
  have HB0 : Hid (Below w.heap.size w A0) := by show Below _ _ _; rw [← h0]; exact mem_alloc _ _
  have HB1 : Hid (Below A0.heap.size A0 A1) := by show Below _ _ _; rw [← h1]; exact mem_alloc _ _
  have HX0 : Hid (A0.heap[w.heap.size]? = some (prgObj p sa sc ta tc)) := by show _ = _; rw [← h0]; exact mem_new _ _
  have HX1 : Hid (A1.heap[A0.heap.size]? = some (fnObj ⟨#[]⟩ 0 (.slice none 0 0) (.slice none 0 0))) := by show _ = _; rw [← h1]; exact mem_new _ _
  have HBW := Lib.hid (mem_then HB0.out HB1.out)
  have HZ : Hid (A0.heap.size = w.heap.size + 1) := by show _ = _; rw [← h0]; simp
  have HK : Hid (∀ w', Below A1.heap.size A1 w' → w'.heap[w.heap.size]? = some (prgObj p sa sc ta tc) ∧ w'.heap[A0.heap.size]? = some (fnObj ⟨#[]⟩ 0 (.slice none 0 0) (.slice none 0 0)) ∧ PrgAt w' p sa ta ∧ Below w.heap.size w w' ∧ SignsIn w') := fun w' h =>
    ⟨mem_keep (mem_keep HX0.out HB1.out) h, mem_keep HX1.out h, hp.below (mem_then HBW.out h), mem_then HBW.out h, hg.below (mem_then HBW.out h)⟩
  -- a way out with the zero function
  have HZF : Hid (∀ w', Below A1.heap.size A1 w' → Below w.heap.size w (put4 w' A0.heap.size (.string ⟨#[]⟩) (.int .i64 0) (.slice none 0 0) (.slice none 0 0)) ∧ (put4 w' A0.heap.size (.string ⟨#[]⟩) (.int .i64 0) (.slice none 0 0) (.slice none 0 0)).heap[A0.heap.size]? = some (fnObj ⟨#[]⟩ 0 (.slice none 0 0) (.slice none 0 0))) := fun w' h =>
    ⟨put4_below (HK.out w' h).2.2.2.1 (by have := HZ.out; omega), put4_at (HK.out w' h).2.1⟩
  have y0 : A1.cell? ⟨w.heap.size, 0, none⟩ = some (.slice sa p.shared.length sc) := mem_cell (HK.out A1 (Below.refl _ _)).1 0
  have y1 : A1.cell? ⟨w.heap.size, 1, none⟩ = some (.slice ta p.tasks.length tc) := mem_cell (HK.out A1 (Below.refl _ _)).1 1
  clear hp hg hk
  go_enter Tryd.func9, Tryd.ntmps9
  go_wp2_with fail
  clear y0 y1 h0 h1
  refine (smallProg_any p A1 sa ta sc tc (HK.out A1 (Below.refl _ _)).2.2.1).mono ?_
  rintro e w1 ⟨⟨b1, rfl⟩, hB1⟩
  have HB1' := Lib.hid hB1
  have y0 : w1.cell? ⟨w.heap.size, 0, none⟩ = some (.slice sa p.shared.length sc) := mem_cell (HK.out w1 hB1).1 0
  have y1 : w1.cell? ⟨w.heap.size, 1, none⟩ = some (.slice ta p.tasks.length tc) := mem_cell (HK.out w1 hB1).1 1
  clear hB1
  have HOUT : Hid (∀ w', Below A1.heap.size A1 w' → ∃ X : World, put4 w' A0.heap.size (.string ⟨#[]⟩) (.int .i64 0) (.slice none 0 0) (.slice none 0 0) = X ∧ (Below w.heap.size w X ∧ X.heap[A0.heap.size]? = some (fnObj ⟨#[]⟩ 0 (.slice none 0 0) (.slice none 0 0)))) := fun w' h => ⟨_, rfl, HZF.out w' h⟩
  cases b1 with
  | false =>
    obtain ⟨c0, c1, c2, c3, cf⟩ := fn_four (HK.out w1 HB1'.out).2.1
    obtain ⟨WE, hWE, hz⟩ := HOUT.out w1 HB1'.out
    have HZ1 := Lib.hid hz
    unfold put4 at hWE
    clear hz
    go_wp2_with fail
    clear c0 c1 c2 c3 cf hWE
    obtain ⟨r0, r1, r2, r3, _⟩ := fn_four HZ1.out.2
    exact bodyPost_ret (v := .tuple #[fnVal ⟨#[]⟩ 0 none 0 0 none 0 0, .bool false]) (by simp [results, Tryd.results9, go_sem, r0, r1, r2, r3]) rfl (TransRet.no HZ1.out.1)
  | true =>
  go_wp2_with fail
  clear y0 y1
  refine (ok15_any p w1 sa ta sc tc (HK.out w1 HB1'.out).2.2.1 (HK.out w1 HB1'.out).2.2.2.2).mono ?_
  rintro e w2 ⟨rfl, hB2⟩
  have HB2 := Lib.hid (mem_then HB1'.out hB2)
  have y0 : w2.cell? ⟨w.heap.size, 0, none⟩ = some (.slice sa p.shared.length sc) := mem_cell (HK.out w2 HB2.out).1 0
  have y1 : w2.cell? ⟨w.heap.size, 1, none⟩ = some (.slice ta p.tasks.length tc) := mem_cell (HK.out w2 HB2.out).1 1
  obtain ⟨ok, hok⟩ : ∃ b, okP p = b := ⟨_, rfl⟩
  have HOK := Lib.hid hok
  rw [hok]
  clear hB2 hok
  cases ok with
  | false =>
    obtain ⟨c0, c1, c2, c3, cf⟩ := fn_four (HK.out w2 HB2.out).2.1
    obtain ⟨WE, hWE, hz⟩ := HOUT.out w2 HB2.out
    have HZ1 := Lib.hid hz
    unfold put4 at hWE
    clear hz
    go_wp2_with fail
    clear c0 c1 c2 c3 cf hWE
    obtain ⟨r0, r1, r2, r3, _⟩ := fn_four HZ1.out.2
    exact bodyPost_ret (v := .tuple #[fnVal ⟨#[]⟩ 0 none 0 0 none 0 0, .bool false]) (by simp [results, Tryd.results9, go_sem, r0, r1, r2, r3]) rfl (TransRet.no HZ1.out.1)
  | true =>
  by_cases h0 : k < 0
  · have h0d : decide (k < 0) = true := by simpa using h0
    obtain ⟨c0, c1, c2, c3, cf⟩ := fn_four (HK.out w2 HB2.out).2.1
    obtain ⟨WE, hWE, hz⟩ := HOUT.out w2 HB2.out
    have HZ1 := Lib.hid hz
    unfold put4 at hWE
    clear hz
    go_wp2_with fail
    clear c0 c1 c2 c3 cf hWE
    obtain ⟨r0, r1, r2, r3, _⟩ := fn_four HZ1.out.2
    exact bodyPost_ret (v := .tuple #[fnVal ⟨#[]⟩ 0 none 0 0 none 0 0, .bool false]) (by simp [results, Tryd.results9, go_sem, r0, r1, r2, r3]) rfl (TransRet.no HZ1.out.1)
  have h0d : decide (k < 0) = false := by simpa using h0
  by_cases h1 : (p.tasks.length : Int) ≤ k
  · have h1d : decide ((p.tasks.length : Int) ≤ k) = true := by simpa using h1
    obtain ⟨c0, c1, c2, c3, cf⟩ := fn_four (HK.out w2 HB2.out).2.1
    obtain ⟨WE, hWE, hz⟩ := HOUT.out w2 HB2.out
    have HZ1 := Lib.hid hz
    unfold put4 at hWE
    clear hz
    go_wp2_with fail
    clear c0 c1 c2 c3 cf hWE
    obtain ⟨r0, r1, r2, r3, _⟩ := fn_four HZ1.out.2
    exact bodyPost_ret (v := .tuple #[fnVal ⟨#[]⟩ 0 none 0 0 none 0 0, .bool false]) (by simp [results, Tryd.results9, go_sem, r0, r1, r2, r3]) rfl (TransRet.no HZ1.out.1)
  have h1d : decide ((p.tasks.length : Int) ≤ k) = false := by simpa using h1
  have HKB : Hid (0 ≤ k ∧ k < p.tasks.length) := ⟨by omega, by omega⟩
  have HR : Hid (taskR p k = (lowFn p.shared (p.tasks.getD k.toNat Tsk.none), 0)) := by
    show _ = _; unfold taskR; rw [if_neg (by rw [HOK.out]; simp), if_neg (by omega)]
  clear h0 h1
  have hT := task_any p k w2 sa ta sc tc (HK.out w2 HB2.out).2.2.1 (HK.out w2 HB2.out).2.2.2.2 HKK.out
  rw [HR.out] at hT
  obtain ⟨F, hF⟩ : ∃ F, lowFn p.shared (p.tasks.getD k.toNat Tsk.none) = F := ⟨_, rfl⟩
  have HF := Lib.hid hF
  rw [hF] at hT
  have HT := Lib.hid hT
  clear hT hF
  go_wp2_with fail
  clear y0 y1
  refine HT.out.mono ?_
  rintro e w3 ⟨aa, ac, ba, bc, rfl, hfn, hB3⟩
  have HFN := Lib.hid hfn
  have HB3 := Lib.hid (mem_then HB2.out hB3)
  clear hfn hB3 HT
  obtain ⟨an, hn1⟩ : ∃ n, F.arrays.length = n := ⟨_, rfl⟩
  obtain ⟨bn, hn2⟩ : ∃ n, F.blocks.length = n := ⟨_, rfl⟩
  have HNN : Hid (F.arrays.length = an ∧ F.blocks.length = bn) := ⟨hn1, hn2⟩
  simp only [hn1, hn2]
  obtain ⟨V, hV⟩ : ∃ X : World, w3.alloc (fnObj F.name F.regs (.slice aa an ac) (.slice ba bn bc)) = X := ⟨_, rfl⟩
  have HV0 : Hid (Below w3.heap.size w3 V) := by show Below _ _ _; rw [← hV]; exact mem_alloc _ _
  have HVX : Hid (V.heap[w3.heap.size]? = some (fnObj F.name F.regs (.slice aa an ac) (.slice ba bn bc))) := by show _ = _; rw [← hV]; exact mem_new _ _
  have HV := Lib.hid (mem_then HB3.out HV0.out)
  obtain ⟨v0, v1, v2, v3, _⟩ := fn_four HVX.out
  obtain ⟨c0, c1, c2, c3, cf⟩ := fn_four (HK.out V HV.out).2.1
  obtain ⟨WE, hWE⟩ : ∃ X : World, put4 V A0.heap.size (.string F.name) (.int .i64 F.regs) (.slice aa an ac) (.slice ba bn bc) = X := ⟨_, rfl⟩
  have HEX : Hid (WE.heap[A0.heap.size]? = some (fnObj F.name F.regs (.slice aa an ac) (.slice ba bn bc))) := by show _ = _; rw [← hWE]; exact put4_at (HK.out V HV.out).2.1
  have HAE : Hid (FnNew w.heap.size WE F aa ba) := by
    refine (FnNew.move HFN.out (by rw [← hWE]; unfold put4; simp; exact HV0.out.size) (fun k h1 h2 => ?_)).mono (by have := HB2.out.size; have := HBW.out.size; omega)
    rw [← hWE]
    exact (put4_far (by have h3 := mem_lt (HK.out w2 HB2.out).2.1; omega)).trans (HV0.out.block k h2)
  have HBE : Hid (Below w.heap.size w WE) := by show Below _ _ _; rw [← hWE]; exact put4_below (HK.out V HV.out).2.2.2.1 (by have := HZ.out; omega)
  unfold put4 at hWE
  clear hn1 hn2
  go_wp2_with fail
  clear c0 c1 c2 c3 cf hWE hV v0 v1 v2 v3
  obtain ⟨r0, r1, r2, r3, _⟩ := fn_four HEX.out
  exact bodyPost_ret (v := .tuple #[fnVal F.name F.regs aa an ac ba bn bc, .bool true]) (by simp [results, Tryd.results9, go_sem, r0, r1, r2, r3]) rfl ⟨F, true, aa, ac, ba, bc, by rw [HNN.out.1, HNN.out.2], HAE.out, HBE.out, fun _ => ⟨HOK.out, HKB.out, HF.out.symm⟩⟩
end Go.Proofs.YtkpdngfkdmllkaaDoor

/-
  Plain law of LowerLocks: one instruction to lock and one to unlock for each Lock statement, with its object. No walk here.
-/
namespace Go.Proofs.YtkpdngfkdmllkaaDoor
set_option linter.unusedVariables false
set_option linter.unusedSimpArgs false
open Go.RowKit
set_option maxRecDepth 100000

def catTo {α : Type} (f : Nat → List α) : Nat → List α
  | 0 => []
  | n + 1 => catTo f n ++ f n
theorem catTo_eq {α : Type} (f g : Nat → List α) : ∀ n, (∀ i, i < n → f i = g i) → catTo f n = catTo g n := by
  intro n
  induction n with
  | zero => intro _; rfl
  | succ n ih => intro h; show catTo f n ++ f n = catTo g n ++ g n; rw [ih (fun i hi => h i (by omega)), h n (by omega)]
/-- the objects of the Lock statements of a tree, in pre-order -/
def Tree.locks : Tree → List ByteArray
  | .node k n s l kid => (if k = 46 then [s] else []) ++ catTo (fun i => if h : i < l then locks (kid ⟨i, h⟩) else []) l
theorem Tree.locks_eq (t : Tree) : t.locks = (if t.kind = 46 then [t.name] else []) ++ catTo (fun i => (t.kid i).locks) t.len := by
  cases t with
  | node k n s l kid =>
    rw [Tree.locks]
    show _ ++ _ = (if k = 46 then [s] else []) ++ catTo (fun i => ((Tree.node k n s l kid).kid i).locks) l
    congr 1
    refine catTo_eq _ _ _ (fun i hi => ?_)
    rw [dif_pos hi, Tree.kid_node hi]
theorem catTo_nil {α : Type} {f : Nat → List α} : ∀ n, (∀ i, i < n → f i = []) → catTo f n = [] := by
  intro n
  induction n with
  | zero => intro _; rfl
  | succ n ih => intro h; show catTo f n ++ f n = []; rw [ih (fun i hi => h i (by omega)), h n (by omega)]; rfl
theorem locksE : ∀ (t : Tree), t.vld 101 = true → t.locks = [] := by
  intro t
  induction t using Tree.ind with
  | h t ih =>
    intro hv
    obtain ⟨hk, _, hkid, _⟩ := vldE hv
    rw [Tree.locks_eq, if_neg (by omega), List.nil_append]
    exact catTo_nil _ (fun i hi => ih i hi (hkid i hi))
theorem locksP {p : Tree} (h : p.vld 112 = true) : p.locks = [] := by
  have h0 := h
  rw [Tree.vld_eq, Bool.and_eq_true] at h
  obtain ⟨h1, h2⟩ := h
  have hk : p.kind = 2 ∨ p.kind = 3 := by
    unfold Fm.belongs at h1
    simpa using h1
  rw [if_neg (by omega)] at h2
  simp only [Bool.and_eq_true, decide_eq_true_eq] at h2
  obtain ⟨⟨⟨⟨h3, h4⟩, h5⟩, h6⟩, h7⟩ := h2
  rw [Tree.locks_eq, if_neg (by omega), List.nil_append]
  rcases hk with hk | hk
  · rw [hk] at h5
    have h5 : p.len = 0 := h5
    rw [h5]
    rfl
  · rw [hk] at h5 h7
    have h5 : p.len = 1 := h5
    have h8 : (p.kid 0).vld 101 = true := Tree.allTo_iff.1 h7 0 (by omega)
    rw [h5]
    show [] ++ (p.kid 0).locks = []
    rw [locksE _ h8]
    rfl
section
variable (f : Ins → Bool)
/-- how many instructions of a translation so far answer -/
def LS.cnt (s : LS) : Nat := (s.done.map (fun b => b.code.countP f)).sum + s.code.countP f
/-- an instruction's operation is neither Lock nor Unlock -/
def Calm46 (i : Ins) : Prop := i.op ≠ 11 ∧ i.op ≠ 12
theorem calm_ins {op d x y imm : Int} {s : ByteArray} (h : op ≠ 11 ∧ op ≠ 12) : Calm46 (insB op d x y imm s) := h
theorem lowB_calm {E : LEnv} {V : VM} {k n : Int} {s : ByteArray} {f0 f1 : Nat → LE} (h0 : ∀ R, ∀ i ∈ (f0 R).code, Calm46 i) (h1 : ∀ R, ∀ i ∈ (f1 R).code, Calm46 i) (R : Nat) : ∀ i ∈ (lowB E V k n s f0 f1 R).code, Calm46 i := by
  intro i hi
  unfold lowB at hi
  split at hi
  · simp only [List.mem_cons, List.not_mem_nil, or_false] at hi; subst hi; exact calm_ins (by decide)
  split at hi
  · cases hi
  split at hi
  · simp only [List.mem_append, List.mem_cons, List.not_mem_nil, or_false] at hi
    rcases hi with hi | rfl | rfl
    · exact h0 _ _ hi
    · exact calm_ins (by decide)
    · by_cases h : E.sh s = true
      · simp only [h, if_true]; exact calm_ins (by decide)
      · rw [if_neg h]; exact calm_ins (by decide)
  split at hi
  · simp only [List.mem_append, List.mem_cons, List.not_mem_nil, or_false] at hi
    rcases hi with hi | rfl | rfl
    · exact h0 _ _ hi
    · exact calm_ins (by decide)
    · exact calm_ins (by decide)
  split at hi
  · simp only [List.mem_append, List.mem_cons, List.not_mem_nil, or_false] at hi
    rcases hi with hi | rfl | rfl
    · exact h0 _ _ hi
    · exact calm_ins (by decide)
    · exact calm_ins (by decide)
  · simp only [List.mem_append, List.mem_cons, List.not_mem_nil, or_false] at hi
    rcases hi with (hi | hi) | rfl
    · exact h0 _ _ hi
    · exact h1 _ _ hi
    · exact calm_ins (by decide)
theorem lowE_calm (E : LEnv) (V : VM) : ∀ (t : Tree) (R : Nat), ∀ i ∈ (t.lowE E V R).code, Calm46 i := by
  intro t
  induction t using Tree.ind with
  | h t ih =>
    intro R
    rw [Tree.lowE_eq]
    refine lowB_calm (fun R i hi => ?_) (fun R i hi => ?_) R
    · by_cases h : 0 < t.len
      · rw [if_pos h] at hi; exact ih 0 h R i hi
      · rw [if_neg h] at hi; cases hi
    · by_cases h : 1 < t.len
      · rw [if_pos h] at hi; exact ih 1 h R i hi
      · rw [if_neg h] at hi; cases hi
theorem kidLE_calm (E : LEnv) (t : Tree) (j : Nat) (V : VM) (R : Nat) : ∀ i ∈ (kidLE E t j V R).code, Calm46 i := by
  intro i hi
  unfold kidLE at hi
  by_cases h : j < t.len
  · rw [if_pos h] at hi; exact lowE_calm E V _ _ i hi
  · rw [if_neg h] at hi; cases hi
end
section
variable {f : Ins → Bool} {P : ByteArray → Bool}
/-- a count that passes over calm instructions and takes one of a lock and its unlock for an object -/
structure CntF (f : Ins → Bool) (P : ByteArray → Bool) : Prop where
  calm : ∀ i, Calm46 i → f i = false
  pair : ∀ nm, [insB 11 0 0 0 0 nm, insB 12 0 0 0 0 nm].countP f = [nm].countP P
theorem CntF.zero (h : CntF f P) {l : List Ins} (hl : ∀ i ∈ l, Calm46 i) : l.countP f = 0 := by
  rw [List.countP_eq_zero]
  intro i hi
  rw [h.calm i (hl i hi)]
  decide
theorem CntF.one (h : CntF f P) {i : Ins} (hl : Calm46 i) : [i].countP f = 0 := h.zero (fun x hx => by obtain rfl := List.mem_singleton.1 hx; exact hl)
theorem loop_cnt (h : CntF f P) {lim : Int} {d : Nat} {hd : LE} {enter : VM → VM} {b : LF} {k : Nat} {c : List Ins} {V : VM} {n : Nat} (h0 : hd.code.countP f = 0) (hb : ∀ k c R V, (b k c R V).cnt f = c.countP f + n) : (loopL lim d hd enter b k c V).cnt f = c.countP f + n := by
  unfold loopL
  dsimp only
  have c1 := hb (k + 2) [insB 16 0 d 0 lim noB] hd.regs (enter V)
  rw [h.one (calm_ins (by decide))] at c1
  obtain ⟨q, hq⟩ : ∃ q, b (k + 2) [insB 16 0 d 0 lim noB] hd.regs (enter V) = q := ⟨_, rfl⟩
  rw [hq] at c1 ⊢
  have e1 := h.one (calm_ins (d := 0) (x := 0) (y := 0) (imm := d) (s := noB) (show (13 : Int) ≠ 11 ∧ (13 : Int) ≠ 12 by decide))
  have e2 := h.one (calm_ins (d := 0) (x := 0) (y := 0) (imm := d) (s := noB) (show (14 : Int) ≠ 11 ∧ (14 : Int) ≠ 12 by decide))
  unfold LS.cnt at c1 ⊢
  simp only [List.map_append, List.map_cons, List.map_nil, List.sum_append, List.sum_cons, List.sum_nil, List.countP_append, List.countP_nil, h0, e1, e2, Nat.add_zero, Nat.zero_add] at c1 ⊢
  omega
theorem low_cnt (h : CntF f P) (E : LEnv) : ∀ (t : Tree), (t.vld 98 = true ∨ t.vld 115 = true) → ∀ (d k : Nat) (c : List Ins) (R : Nat) (V : VM), (t.low E d k c R V).cnt f = c.countP f + t.locks.countP P := by
  intro t
  induction t using Tree.ind with
  | h t ih =>
    intro hv d k c R V
    rw [Tree.low_eq, Tree.locks_eq]
    rcases hv with hv | hv
    · obtain ⟨hk, hkid⟩ := vldB hv
      rw [if_pos hk, if_neg (by omega), List.nil_append]
      have key : ∀ n, n ≤ t.len → (seqL (fun i => kidL E t i d) k c R V n).cnt f = c.countP f + (catTo (fun i => (t.kid i).locks) n).countP P := by
        intro n
        induction n with
        | zero => intro _; show (LS.mk [] c R V).cnt f = _; unfold LS.cnt catTo; simp
        | succ n ihn =>
          intro hn
          have h1 := ihn (by omega)
          show ((seqL (fun i => kidL E t i d) k c R V n).next k (kidL E t n d)).cnt f = _
          obtain ⟨q, hq⟩ : ∃ q, seqL (fun i => kidL E t i d) k c R V n = q := ⟨_, rfl⟩
          rw [hq] at h1 ⊢
          have h2 := ih n (by omega) (.inr (hkid n (by omega))) d (k + q.done.length) q.code q.regs q.vars
          have h3 : kidL E t n d = (t.kid n).low E d := by unfold kidL; rw [if_pos (show n < t.len by omega)]
          rw [h3]
          unfold LS.cnt at h1 h2
          unfold LS.next LS.cnt
          simp only [List.map_append, List.sum_append]
          show _ = c.countP f + (catTo (fun i => (t.kid i).locks) n ++ (t.kid n).locks).countP _
          rw [List.countP_append]
          omega
      exact key t.len (Nat.le_refl _)
    · obtain ⟨⟨hk1, hk2⟩, _, hlen, hkid⟩ := vldS hv
      rw [if_neg (by omega)]
      have hb : ∀ i, i < t.len → (t.kid i).vld 98 = true → ∀ d k c R V, (kidL E t i d k c R V).cnt f = c.countP f + (t.kid i).locks.countP P := fun i hi hvi d k c R V => by
        have h3 : kidL E t i d = (t.kid i).low E d := by unfold kidL; rw [if_pos hi]
        rw [h3]
        exact ih i hi (.inl hvi) d k c R V
      have he : ∀ j V R, (kidLE E t j V R).code.countP f = 0 := fun j V R => h.zero (kidLE_calm E t j V R)
      have heE : ∀ (x : Tree) V R, (x.lowE E V R).code.countP f = 0 := fun x V R => h.zero (lowE_calm E V x R)
      obtain hk | hk | hk | hk | hk | hk | hk : t.kind = 40 ∨ t.kind = 41 ∨ t.kind = 42 ∨ t.kind = 43 ∨ t.kind = 44 ∨ t.kind = 45 ∨ t.kind = 46 := by omega
      all_goals rw [hk] at hlen hkid
      · have hlen : t.len = 2 := hlen
        have l0 := locksP (hkid 0 (by omega))
        have l1 := locksE _ (hkid 1 (by omega))
        rw [if_neg (by omega), hlen]
        show _ = _ + ([] ++ (([] ++ (t.kid 0).locks) ++ (t.kid 1).locks)).countP _
        rw [l0, l1]
        unfold lowS
        rw [if_pos hk]
        by_cases h2 : (t.kid 0).kind = 2
        · rw [if_pos h2]
          unfold LS.cnt
          simp only [List.map_nil, List.sum_nil, List.countP_append, he, h.one (calm_ins (show (2 : Int) ≠ 11 ∧ (2 : Int) ≠ 12 by decide))]
          simp
        · rw [if_neg h2]
          unfold LS.cnt
          have e1 : [insB 8 0 (((t.kid 0).kid 0).lowE E V R).r 0 (E.len (t.kid 0).name) noB, stoB E (t.kid 0).name (((t.kid 0).kid 0).lowE E V R).r (kidLE E t 1 V (((t.kid 0).kid 0).lowE E V R).regs).r].countP f = 0 := h.zero (fun i hi => by
            simp only [List.mem_cons, List.not_mem_nil, or_false] at hi
            rcases hi with rfl | rfl
            · exact calm_ins (by decide)
            · unfold stoB
              by_cases h : E.sh (t.kid 0).name = true
              · rw [if_pos h]; exact calm_ins (by decide)
              · rw [if_neg h]; exact calm_ins (by decide))
          simp only [List.map_nil, List.sum_nil, List.countP_append, he, heE, e1]
          simp
      · have hlen : t.len = 3 := hlen
        have l0 := locksE _ (hkid 0 (by omega))
        rw [if_neg (by omega), hlen]
        show _ = _ + ([] ++ ((([] ++ (t.kid 0).locks) ++ (t.kid 1).locks) ++ (t.kid 2).locks)).countP _
        rw [l0]
        unfold lowS
        rw [if_neg (by omega), if_pos hk]
        unfold ifL
        dsimp only
        have b1 := hb 1 (by omega) (hkid 1 (by omega))
        have b2 := hb 2 (by omega) (hkid 2 (by omega))
        obtain ⟨e, hee⟩ : ∃ e, kidLE E t 0 V R = e := ⟨_, rfl⟩
        have he0 := he 0 V R
        rw [hee] at he0 ⊢
        have c1 := b1 d (k + 1) [] e.regs V
        obtain ⟨s1, hs1⟩ : ∃ s1, kidL E t 1 d (k + 1) [] e.regs V = s1 := ⟨_, rfl⟩
        rw [hs1] at c1 ⊢
        have c2 := b2 d (k + 1 + s1.done.length + 1) [] s1.regs s1.vars
        obtain ⟨s2, hs2⟩ : ∃ s2, kidL E t 2 d (k + 1 + s1.done.length + 1) [] s1.regs s1.vars = s2 := ⟨_, rfl⟩
        rw [hs2] at c2 ⊢
        unfold LS.cnt at c1 c2 ⊢
        simp only [List.map_append, List.map_cons, List.map_nil, List.sum_append, List.sum_cons, List.sum_nil, List.countP_append, List.countP_nil, he0, List.nil_append] at c1 c2 ⊢
        omega
      · have hlen : t.len = 1 := hlen
        rw [if_neg (by omega), hlen]
        show _ = _ + ([] ++ ([] ++ (t.kid 0).locks)).countP _
        unfold lowS
        rw [if_neg (by omega), if_neg (by omega), if_pos hk]
        exact loop_cnt (lim := t.num) (d := d) (hd := forH t.num d R) (enter := fun V => upd V t.name (some R)) (b := kidL E t 0 (d + 1)) h (h.zero (fun i hi => by
          unfold forH at hi
          simp only [List.mem_cons, List.not_mem_nil, or_false] at hi
          rcases hi with rfl | rfl | rfl
          · exact calm_ins (by decide)
          · exact calm_ins (by decide)
          · exact calm_ins (by decide))) (hb 0 (by omega) (hkid 0 (by omega)) (d + 1))
      · have hlen : t.len = 2 := hlen
        have l0 := locksE _ (hkid 0 (by omega))
        rw [if_neg (by omega), hlen]
        show _ = _ + ([] ++ (([] ++ (t.kid 0).locks) ++ (t.kid 1).locks)).countP _
        rw [l0]
        unfold lowS
        rw [if_neg (by omega), if_neg (by omega), if_neg (by omega), if_pos hk]
        exact loop_cnt h (he 0 V R) (hb 1 (by omega) (hkid 1 (by omega)) (d + 1))
      · have hlen : t.len = 1 := hlen
        have l0 := locksP (hkid 0 (by omega))
        rw [if_neg (by omega), hlen]
        show _ = _ + ([] ++ ([] ++ (t.kid 0).locks)).countP _
        rw [l0]
        unfold lowS
        rw [if_neg (by omega), if_neg (by omega), if_neg (by omega), if_neg (by omega), if_pos hk]
        by_cases h2 : (t.kid 0).kind = 2
        · rw [if_pos h2]
          unfold LS.cnt
          simp only [List.map_nil, List.sum_nil, List.countP_append, h.one (calm_ins (show (9 : Int) ≠ 11 ∧ (9 : Int) ≠ 12 by decide))]
          simp
        · rw [if_neg h2]
          unfold LS.cnt
          have e1 : [insB 8 0 (((t.kid 0).kid 0).lowE E V R).r 0 (E.len (t.kid 0).name) noB, insB 9 (((t.kid 0).kid 0).lowE E V R).regs 0 0 t.num noB, stoB E (t.kid 0).name (((t.kid 0).kid 0).lowE E V R).r (((t.kid 0).kid 0).lowE E V R).regs].countP f = 0 := h.zero (fun i hi => by
            simp only [List.mem_cons, List.not_mem_nil, or_false] at hi
            rcases hi with rfl | rfl | rfl
            · exact calm_ins (by decide)
            · exact calm_ins (by decide)
            · unfold stoB
              by_cases h : E.sh (t.kid 0).name = true
              · rw [if_pos h]; exact calm_ins (by decide)
              · rw [if_neg h]; exact calm_ins (by decide))
          simp only [List.map_nil, List.sum_nil, List.countP_append, heE, e1]
          simp
      · have hlen : t.len = 1 := hlen
        have l0 := locksE _ (hkid 0 (by omega))
        rw [if_neg (by omega), hlen]
        show _ = _ + ([] ++ ([] ++ (t.kid 0).locks)).countP _
        rw [l0]
        unfold lowS
        rw [if_neg (by omega), if_neg (by omega), if_neg (by omega), if_neg (by omega), if_neg (by omega), if_pos hk]
        unfold LS.cnt
        simp only [List.map_nil, List.sum_nil, List.countP_append, he, h.one (calm_ins (show (10 : Int) ≠ 11 ∧ (10 : Int) ≠ 12 by decide))]
        simp
      · have hlen : t.len = 1 := hlen
        rw [if_pos hk, hlen]
        show _ = _ + ([t.name] ++ ([] ++ (t.kid 0).locks)).countP _
        unfold lowS
        rw [if_neg (by omega), if_neg (by omega), if_neg (by omega), if_neg (by omega), if_neg (by omega), if_neg (by omega), if_pos hk]
        dsimp only
        have c1 := hb 0 (by omega) (hkid 0 (by omega)) d k (c ++ [insB 11 0 0 0 0 t.name]) R V
        obtain ⟨q, hq⟩ : ∃ q, kidL E t 0 d k (c ++ [insB 11 0 0 0 0 t.name]) R V = q := ⟨_, rfl⟩
        rw [hq] at c1 ⊢
        have hp := h.pair t.name
        rw [show [insB 11 0 0 0 0 t.name, insB 12 0 0 0 0 t.name] = [insB 11 0 0 0 0 t.name] ++ [insB 12 0 0 0 0 t.name] from rfl, List.countP_append] at hp
        unfold LS.cnt at c1 ⊢
        rw [List.nil_append]
        simp only [List.countP_append] at c1 ⊢
        omega
end
/-- the instructions of a function that answer -/
def Fn.cnt (F : Fn) (f : Ins → Bool) : Nat := (F.blocks.map (fun b => b.code.countP f)).sum
theorem lowFn_cnt {f : Ins → Bool} {P : ByteArray → Bool} (h : CntF f P) (shared : List Arr) (t : Tsk) (hv : t.body.vld 98 = true) : (lowFn shared t).cnt f = t.body.locks.countP P := by
  have h1 := low_cnt h (envOf shared t.arrays) t.body (.inl hv) 0 0 [] t.vars.length (varsM t.vars t.vars.length)
  unfold LS.cnt at h1
  unfold Fn.cnt lowFn lowS0
  simp only [List.map_append, List.map_cons, List.map_nil, List.sum_append, List.sum_cons, List.sum_nil, List.countP_nil, Nat.zero_add, Nat.add_zero] at h1 ⊢
  exact h1
def opS (op : Int) (s : ByteArray) (i : Ins) : Bool := decide (i.op = op) && decide (i.sym = s)
theorem cnt_lock (s : ByteArray) : CntF (opS 11 s) (fun x => decide (x = s)) := ⟨fun i hi => by unfold opS; rw [decide_eq_false hi.1]; rfl, fun nm => by simp [opS, List.countP_cons]⟩
theorem cnt_unlock (s : ByteArray) : CntF (opS 12 s) (fun x => decide (x = s)) := ⟨fun i hi => by unfold opS; rw [decide_eq_false hi.2]; rfl, fun nm => by simp [opS, List.countP_cons]⟩
def opA (op : Int) (i : Ins) : Bool := decide (i.op = op)
theorem cnt_locks : CntF (opA 11) (fun _ => true) := ⟨fun i hi => by unfold opA; rw [decide_eq_false hi.1], fun nm => by simp [opA, List.countP_cons]⟩
theorem cnt_unlocks : CntF (opA 12) (fun _ => true) := ⟨fun i hi => by unfold opA; rw [decide_eq_false hi.2], fun nm => by simp [opA, List.countP_cons]⟩
/-- no more locks than nodes, whatever the name -/
theorem lowFn_few {f : Ins → Bool} {P : ByteArray → Bool} (h : CntF f P) (shared : List Arr) (t : Tsk) (hv : t.body.vld 98 = true) : (lowFn shared t).cnt f ≤ t.body.locks.length := by
  rw [lowFn_cnt h shared t hv]
  exact List.countP_le_length
end Go.Proofs.YtkpdngfkdmllkaaDoor

/-
  A row that a drawn region builds by appends, beside boxes and new objects. No program's function is named here.
-/
namespace Go.Proofs.YtkpdngfkdmllkaaDoor
set_option linter.unusedVariables false
set_option linter.unusedSimpArgs false
open Go.RowKit

theorem Src.below {w w' : World} {A : Option Addr} {m size : Nat} {news : List Value} (h : Src w A m size news) (hB : Below w.heap.size w w') : Src w' A m size news :=
  ⟨h.1, h.2.imp id fun ⟨ad, h1, h2⟩ => ⟨ad, h1, fun j u hu => (hB.cell (World.block_lt_of_cell? w _ (h2 j u hu))).trans (h2 j u hu)⟩⟩
theorem own_src {w : World} {base : Nat} {e : TypeId} {size n c : Nat} {A : Option Addr} {xs : List Value} (h : w.ownsRow base e size (.slice A n c) n xs) : Src w A n size xs := by
  refine ⟨h.1, ?_⟩
  rcases h.2 with ⟨h1, h2⟩ | ⟨g, cap, cur, h1, hg, hc, _⟩
  · exact .inl h2
  · injection h1 with h1 h2 h3
    subst h1
    exact .inr ⟨_, rfl, fun j u hu => h.cells rfl j u hu⟩
/-- one new object as a source -/
theorem one_src {w : World} {b n size : Nat} {cs : List Value} {e : TypeId} (h : w.heap[b]? = some (.cells cs.toArray e)) (hl : cs.length = n * size) : Src w (some ⟨b, 0, none⟩) n size cs :=
  ⟨hl, .inr ⟨_, rfl, fun j u hu => by
    have e1 : (⟨b, 0, none⟩ : Addr).add j = ⟨b, j, none⟩ := by
      unfold Addr.add
      by_cases h0 : j = 0 <;> simp [h0]
    rw [e1, mem_cell h]
    simpa using hu⟩⟩
structure AppSt (W : World) (Ks : List (Nat × Obj)) (e : TypeId) (size : Nat) (v : Value) (n : Nat) (xs : List Value) (w : World) : Prop where
  bel : Below W.heap.size W w
  own : w.ownsRow W.heap.size e size v n xs
  blk : ∀ x ∈ Ks, w.heap[x.1]? = some x.2 ∧ v.ownBlock ≠ some x.1
section
variable {W w w' : World} {Ks : List (Nat × Obj)} {e : TypeId} {size n m : Nat} {v v' : Value} {xs news : List Value}
theorem AppSt.begin (hB : Below W.heap.size W w) (hk : ∀ x ∈ Ks, w.heap[x.1]? = some x.2) : AppSt W Ks e size (.slice none 0 0) 0 [] w :=
  ⟨hB, World.ownsRow_nil _ _ _ _, fun x hx => ⟨hk x hx, fun h => by cases h⟩⟩
theorem AppSt.start (h : AppSt W Ks e size v n xs w) : AppSt W Ks e size (.slice (some ⟨w.heap.size, 0, none⟩) 0 0) 0 [] (w.alloc (.cells #[] e)) :=
  ⟨mem_then h.bel (mem_alloc _ _), ⟨by simp, .inr ⟨w.heap.size, 0, #[], rfl, h.bel.size, mem_new _ _, by omega, by unfold maxLen; omega, by simp, by simp⟩⟩, fun x hx => ⟨mem_keep (h.blk x hx).1 (mem_alloc _ _), fun he => by
    have h1 := mem_lt (h.blk x hx).1
    have : w.heap.size = x.1 := Option.some.inj he
    omega⟩⟩
theorem AppSt.alloc (h : AppSt W Ks e size v n xs w) (o : Obj) : AppSt W ((w.heap.size, o) :: Ks) e size v n xs (w.alloc o) :=
  ⟨mem_then h.bel (mem_alloc _ _), own_below h.own (mem_alloc _ _), fun x hx => by
    rcases List.mem_cons.1 hx with rfl | hx
    · exact ⟨mem_new _ _, fun he => by
        have h1 := (own_lt h.own he).2
        omega⟩
    · exact ⟨mem_keep (h.blk x hx).1 (mem_alloc _ _), (h.blk x hx).2⟩⟩
theorem AppSt.grow (h : AppSt W Ks e size v n xs w) (ho : w'.ownsRow W.heap.size e size v' m news) (hg : w.grownBy w' v.ownBlock) (hp : v'.ownBlock = v.ownBlock ∨ v'.ownBlock = some w.heap.size) : AppSt W Ks e size v' m news w' :=
  ⟨h.bel.grown hg h.bel.size (fun k hk => (own_lt h.own hk).1), ho, fun x hx => ⟨(hg.block x.1 (mem_lt (h.blk x hx).1) (fun he => (h.blk x hx).2 he.symm)).trans (h.blk x hx).1, fun he => by
    rcases hp with hp | hp
    · exact (h.blk x hx).2 (hp ▸ he)
    · have h1 := mem_lt (h.blk x hx).1
      rw [hp] at he
      have : w.heap.size = x.1 := Option.some.inj he
      omega⟩⟩
/-- the end: the row is stored into a box -/
def AppEnd (W : World) (ub : Nat) (arr : Array Value) (T e : TypeId) (size k n : Nat) (xs : List Value) (w' : World) : Prop :=
  ∃ A c, w'.heap[ub]? = some (.cells (arr.setIfInBounds k (.slice A n c)) T) ∧ w'.ownsRow W.heap.size e size (.slice A n c) n xs ∧ Below W.heap.size W w'
theorem AppSt.put {ub k c : Nat} {A : Option Addr} {arr : Array Value} {T : TypeId} (h : AppSt W Ks e size (.slice A n c) n xs w) (hu : (ub, Obj.cells arr T) ∈ Ks) (hW : W.heap.size ≤ ub) :
    AppEnd W ub arr T e size k n xs (w.setCell ⟨ub, k, none⟩ (.slice A n c)) := by
  obtain ⟨h1, h2⟩ := h.blk _ hu
  refine ⟨A, c, mem_set h1, own_keep h.own (fun b hb _ => Below.heap_setCell _ _ _ _ (fun e1 => ?_)), h.bel.setCell hW _⟩
  have e1 : b = ub := e1
  subst e1
  exact h2 hb
end
/-- the relation, at a normal end alone -/
def OnlyRunA (R : Act → World → Prop) : Exit → Act → World → Prop
  | .normal, a, w => R a w
  | _, _, _ => False
theorem cut_runA {P : Program} {cd : Code} {Q : Exit → Act → World → Prop} {a : Act} {W : World} (R : Act → Act → World → Prop)
    (h : cd.wp P (OnlyRunA (R a)) a W) (hq : ∀ a' w', R a a' w' → Q .normal a' w') : cd.wp P Q a W :=
  wp_mono h fun e a' w' h' => by cases e <;> first | exact hq a' w' h' | exact (h' : False).elim
/-- slots from lo on, n of them, are turned -/
def putAll (ts : Array Value) : Nat → List Value → Array Value
  | _, [] => ts
  | lo, y :: l => putAll (ts.setIfInBounds lo y) (lo + 1) l
def RunEnd (lo n : Nat) (P : World → Prop) (a a' : Act) (w' : World) : Prop := ∃ l : List Value, l.length = n ∧ a' = { a with tmps := putAll a.tmps lo l } ∧ P w'
end Go.Proofs.YtkpdngfkdmllkaaDoor

/-
  Contract: Locks (package ontimeref18).
-/
namespace Go.Proofs.YtkpdngfkdmllkaaDoor
set_option linter.unusedVariables false
set_option linter.unusedSimpArgs false
open Go.RowKit Go.Maps
set_option maxRecDepth 100000
set_option maxHeartbeats 8000000

theorem Tryd.infoStrL : (Tryd.prog.info? 9).map (fun i => (i.zero, i.size, i.bytes)) = some (some (.string ⟨#[]⟩), 1, 16) := by kernel_rfl
theorem catTo_len {f : Nat → List ByteArray} {g : Nat → Nat} : ∀ n, (∀ i, i < n → (f i).length ≤ g i) → (catTo f n).length ≤ Tree.sumTo g n := by
  intro n
  induction n with
  | zero => intro _; exact Nat.zero_le _
  | succ n ih =>
    intro h
    have h1 := ih (fun i hi => h i (by omega))
    have h2 := h n (by omega)
    rw [Tree.sumTo_succ]
    show (catTo f n ++ f n).length ≤ _
    rw [List.length_append]
    omega
theorem locks_len : ∀ t : Tree, t.locks.length ≤ t.size := by
  intro t
  induction t using Tree.ind with
  | h t ih =>
    rw [Tree.locks_eq, Tree.size_eq, List.length_append]
    have h1 := catTo_len (f := fun i => (t.kid i).locks) (g := fun i => (t.kid i).size) t.len (fun i hi => ih i hi)
    by_cases h : t.kind = 46
    · rw [if_pos h, List.length_singleton]; omega
    · rw [if_neg h, List.length_nil]; omega
theorem locks_any : ∀ (t : Tree) (w : World) (a : Option Addr) (c : Nat), Rep w t a → t.size ≤ 1000000 →
    Calls Tryd.prog 14 #[t.val a c] w fun e w' => ∃ va vc, e = .returned (.slice va t.locks.length vc) ∧ w'.ownsRow w.heap.size 9 1 (.slice va t.locks.length vc) t.locks.length (t.locks.map Value.string) ∧ Below w.heap.size w w' := by
  obtain ⟨ti, hti, hz0, hz1, hz2⟩ := info_parts Tryd.infoStrL
  intro t
  induction t using Tree.ind with
  | h t ih =>
    intro w a c hv hsz
    have IH := Lib.hid ih
    have HSZ := Lib.hid hsz
    clear ih
    have hl := hv.fits.len
    have HV := Lib.hid hv
    have HLK := Lib.hid t.locks_eq
    obtain ⟨W, hW⟩ : ∃ W : World, w.alloc (.cells #[.int .u8 t.kind, .int .i64 t.num, .string t.name, .slice a t.len c] 35) = W := ⟨_, rfl⟩
    have HBW : Hid (Below w.heap.size w W) := by show Below _ _ _; rw [← hW]; exact mem_alloc _ _
    have HBX : Hid (W.heap[w.heap.size]? = some (.cells #[.int .u8 t.kind, .int .i64 t.num, .string t.name, .slice a t.len c] 35)) := by show _ = _; rw [← hW]; exact mem_new _ _
    have y0 : W.cell? ⟨w.heap.size, 0, none⟩ = some (.int .u8 t.kind) := mem_cell HBX.out 0
    have y2 : W.cell? ⟨w.heap.size, 2, none⟩ = some (.string t.name) := mem_cell HBX.out 2
    clear hv hsz
    go_enter Tryd.func14, Tryd.ntmps14
    obtain ⟨bb, hbb⟩ : ∃ b, (t.kind == 46) = b := ⟨_, rfl⟩
    have HBB := Lib.hid hbb
    go_upto_if 7 with fail
    clear hbb
    obtain ⟨l0, hl0⟩ : ∃ l0 : List ByteArray, (if t.kind = 46 then [t.name] else []) = l0 := ⟨_, rfl⟩
    have HL0 := Lib.hid hl0
    clear hl0
    go_cut [3] from 8 to 12 (fun v w' => ∃ va vc, v = .slice va l0.length vc ∧ w'.ownsRow W.heap.size 9 1 (.slice va l0.length vc) l0.length (l0.map Value.string) ∧ Below W.heap.size W w')
    case first =>
      cases bb with
      | true =>
        have hk : t.kind = 46 := by simpa using HBB.out
        obtain rfl : l0 = [t.name] := by rw [← HL0.out, if_pos hk]
        clear hk
        go_wp2_with (at_builtin; refine wpList_append_src _ rfl (.tmp 8) (.tmp 11) 32 rfl W.heap.size 9 ti _ 1 16 Tryd.underlying32 hti hz0 hz1 hz2 rfl (by decide) (.slice none 0 0) 0 [] rfl (World.ownsRow_nil _ _ _ _) (some ⟨W.heap.size, 0, none⟩) 1 1 [.string t.name] rfl (one_src (cs := [.string t.name]) (n := 1) (mem_new _ _) rfl) (by simp [Value.oneCell']) (by unfold maxLen; omega) (by omega) (mem_alloc _ _).size ?_)
        intro v9 w9 hown9 hgrow9 _
        obtain ⟨A9, c9, rfl⟩ := own_val hown9
        have HO := Lib.hid hown9
        have HB : Hid (Below W.heap.size W w9) := (mem_alloc _ _).grown hgrow9 (mem_alloc _ _).size (fun k hk => by cases hk)
        clear hown9 hgrow9 hW
        go_wp2_with fail
        go_meet
        exact ⟨A9, c9, rfl, HO.out, HB.out⟩
      | false =>
        have hk : ¬ t.kind = 46 := by simpa using HBB.out
        obtain rfl : l0 = [] := by rw [← HL0.out, if_neg hk]
        clear hk hW
        go_wp2_with fail
        go_meet
        exact ⟨none, 0, rfl, World.ownsRow_nil _ _ _ _, Below.refl _ _⟩
    obtain ⟨va, vc, rfl, hown, hBc⟩ := hcut
    obtain ⟨X, hX⟩ : ∃ X : World, X = wc := ⟨_, rfl⟩
    rw [← hX] at hown hBc ⊢
    have HOWN := Lib.hid hown
    have HBC := Lib.hid hBc
    clear hX hown hBc y0 y2 hW
    go_wp2_with fail
    go_loopw [3, 4] (fun v iv wr => ∃ (j : Nat) (va : Option Addr) (vc : Nat), j ≤ t.len ∧ iv = .int .i64 (j : Int) ∧ v = .slice va (l0 ++ catTo (fun i => (t.kid i).locks) j).length vc ∧ wr.ownsRow W.heap.size 9 1 (.slice va (l0 ++ catTo (fun i => (t.kid i).locks) j).length vc) (l0 ++ catTo (fun i => (t.kid i).locks) j).length ((l0 ++ catTo (fun i => (t.kid i).locks) j).map Value.string) ∧ Below W.heap.size W wr) (fun _ iv _ => t.len - (intOf iv).toNat)
    case atStart => exact ⟨0, va, vc, Nat.zero_le _, rfl, by rw [show catTo (fun i => (t.kid i).locks) 0 = [] from rfl, List.append_nil], by rw [show catTo (fun i => (t.kid i).locks) 0 = [] from rfl, List.append_nil]; exact HOWN.out, HBC.out⟩
    case round =>
      clear HOWN HBC
      obtain ⟨j, va, vc, hj, rfl, rfl, hown, hB⟩ := hrel
      have HB := Lib.hid hB
      have hj0 : (0 : Int) ≤ (j : Int) := by omega
      have hx := mem_keep HBX.out hB
      have y3 : wr.cell? ⟨w.heap.size, 3, none⟩ = some (.slice a t.len c) := mem_cell hx 3
      have HLJ : Hid ((l0 ++ catTo (fun i => (t.kid i).locks) j).length ≤ t.size) := by
        have h1 := catTo_len (f := fun i => (t.kid i).locks) (g := fun i => (t.kid i).size) j (fun i _ => locks_len (t.kid i))
        have h2 : l0.length ≤ 1 := by rw [← HL0.out]; split <;> simp
        have h3 := Tree.sumTo_le (f := fun i => (t.kid i).size) hj
        have h4 := t.size_eq
        show _ ≤ _
        rw [List.length_append]
        omega
      obtain ⟨L, hL⟩ : ∃ L, l0 ++ catTo (fun i => (t.kid i).locks) j = L := ⟨_, rfl⟩
      have HL := Lib.hid hL
      rw [hL] at hown HLJ ⊢
      obtain ⟨n, hn⟩ : ∃ n, L.length = n := ⟨_, rfl⟩
      have HN := Lib.hid hn
      rw [hn] at hown HLJ ⊢
      have HOWN := Lib.hid hown
      clear hB hx hL hn hown
      by_cases hlt : j < t.len
      · have HLT : Hid (j < t.len) := hlt
        have hlt2 : (j : Int) < (t.len : Int) := by omega
        rcases HV.out.kids with h0 | ⟨b, off, rfl, hc⟩
        · omega
        obtain ⟨ai, ci, hnc, hr⟩ := hc j hlt
        have HBB2 := Lib.hid (mem_then HBW.out HB.out)
        obtain ⟨f0, f1, f2, f3⟩ := hnc.below HBB2.out hnc.lt
        have HSK : Hid ((t.kid j).size ≤ 1000000 ∧ n + (t.kid j).locks.length ≤ 1000000) := by
          have h1 := catTo_len (f := fun i => (t.kid i).locks) (g := fun i => (t.kid i).size) j (fun i _ => locks_len (t.kid i))
          have h2 : l0.length ≤ 1 := by rw [← HL0.out]; split <;> simp
          have h3 := Tree.sumTo_le (f := fun i => (t.kid i).size) (show j + 1 ≤ t.len from hlt)
          rw [Tree.sumTo_succ] at h3
          have h4 := t.size_eq
          have h5 := HSZ.out
          have h6 := locks_len (t.kid j)
          have h7 : n = l0.length + (catTo (fun i => (t.kid i).locks) j).length := by rw [← HN.out, ← HL.out, List.length_append]
          show _ ∧ _
          omega
        have HI := Lib.hid (IH.out j hlt)
        have HR := Lib.hid (hr.below HBB2.out)
        clear hc hnc hr hlt
        go_wp2_with fail
        refine (HI.out _ ai ci HR.out HSK.out.1).mono ?_
        rintro e w1 ⟨ka, kc, rfl, hko, hB1⟩
        have HKO := Lib.hid hko
        have HBK := Lib.hid hB1
        have HB1 := Lib.hid (mem_then HB.out hB1)
        obtain ⟨M, hM⟩ : ∃ M, (t.kid j).locks = M := ⟨_, rfl⟩
        have HM := Lib.hid hM
        rw [hM] at HKO HSK ⊢
        obtain ⟨m, hm⟩ : ∃ m, M.length = m := ⟨_, rfl⟩
        have HMM := Lib.hid hm
        rw [hm] at HKO HSK ⊢
        clear hko hB1 hM hm f0 f1 f2 f3 y3 HI
        go_wp2_with (at_builtin; refine wpList_append_src _ rfl (.tmp 20) (.tmp 26) 32 rfl W.heap.size 9 ti _ 1 16 Tryd.underlying32 hti hz0 hz1 hz2 rfl (by decide) (.slice va n vc) n (L.map Value.string) rfl (own_below HOWN.out HBK.out) ka m kc (M.map Value.string) rfl (own_src HKO.out) (fun u hu => by obtain ⟨s, _, rfl⟩ := List.mem_map.1 hu; rfl) (by have := HSK.out.2; unfold maxLen; omega) (by have := HSK.out.2; omega) HB1.out.size ?_)
        intro v9 w9 hown9 hgrow9 _
        obtain ⟨A9, c9, rfl⟩ := own_val hown9
        have HLX : Hid (l0 ++ catTo (fun i => (t.kid i).locks) (j + 1) = L ++ M) := by
          show l0 ++ (catTo (fun i => (t.kid i).locks) j ++ (t.kid j).locks) = _
          rw [← List.append_assoc, HL.out, HM.out]
        have HLY : Hid ((L ++ M).length = n + m) := by show _ = _; rw [List.length_append, HN.out, HMM.out]
        have HO : Hid (w9.ownsRow W.heap.size 9 1 (.slice A9 (n + m) c9) (n + m) ((L ++ M).map Value.string)) := by show World.ownsRow _ _ _ _ _ _ _; rw [List.map_append]; exact hown9
        have HB9 : Hid (Below W.heap.size W w9) := HB1.out.grown hgrow9 HB1.out.size (fun k hk => (own_lt HOWN.out hk).1)
        clear hown9 hgrow9
        go_wp2_with fail
        go_roundw
        case rel => exact ⟨j + 1, A9, c9, by have := HLT.out; omega, by go_num, by rw [HLX.out, HLY.out], by rw [HLX.out, HLY.out]; exact HO.out, HB9.out⟩
        case measure => have := HLT.out; simp [intOf]; omega
      · obtain rfl : j = t.len := by omega
        have HE : Hid (t.locks = L) := by show _ = _; rw [HLK.out, HL0.out]; exact HL.out
        go_wp2_with fail
        go_ret
        refine ⟨va, vc, ?_, ?_, mem_then HBW.out HB.out⟩
        · rw [HE.out, HN.out]; rfl
        · rw [HE.out, HN.out]; exact own_down HOWN.out HBW.out.size
end Go.Proofs.YtkpdngfkdmllkaaDoor

/-
  LowerLocks (package ontimelaw18): Lock and Unlock occur once for each Lock statement, with its object.
-/
namespace Go.Proofs.YtkpdngfkdmllkaaDoor
set_option linter.unusedVariables false
set_option linter.unusedSimpArgs false
open Go.RowKit Go.Maps
set_option maxRecDepth 100000
set_option maxHeartbeats 8000000

/-- a map that counts -/
def CntAt (w : World) (b n : Nat) (g : ByteArray → Nat) : Prop := ∃ f, FMap Tryd.prog LKey w b n f ∧ ∀ s, (f s).getD (.int .i64 0) = .int .i64 (g s : Nat)
theorem CntAt.lt {w : World} {b n : Nat} {g : ByteArray → Nat} (h : CntAt w b n g) : b < w.heap.size := by obtain ⟨f, h1, _⟩ := h; exact h1.lt
theorem CntAt.obj {w : World} {b n : Nat} {g : ByteArray → Nat} (h : CntAt w b n g) : ∃ es ck, w.heap[b]? = some (.map es ck) := by obtain ⟨f, h1, _⟩ := h; exact h1.obj
theorem CntAt.move {w w' : World} {b n : Nat} {g : ByteArray → Nat} (h : CntAt w b n g) (hb : w'.heap[b]? = w.heap[b]?) : CntAt w' b n g := by obtain ⟨f, h1, h2⟩ := h; exact ⟨f, h1.move hb, h2⟩
theorem CntAt.below {w w' : World} {b n : Nat} {g : ByteArray → Nat} (h : CntAt w b n g) (hb : Below w.heap.size w w') : CntAt w' b n g := h.move (hb.block b h.lt)
theorem CntAt.made (w : World) : CntAt (w.alloc (.map #[] 0)) w.heap.size 0 (fun _ => 0) := ⟨fun _ => none, FMap.made _ _ _, fun _ => rfl⟩
theorem CntAt.look {w : World} {b n : Nat} {g : ByteArray → Nat} (h : CntAt w b n g) {s : ByteArray} (hs : s.size ≤ 9223372036854775807) : (Instr.lookup 52 (.map (some b)) (.string s) false).run Tryd.prog w = .ok (.int .i64 (g s : Nat)) w := by
  obtain ⟨f, h1, h2⟩ := h
  have h3 := h1.run lKey Tryd.underlying52 (zero_int w) (s := s) hs
  rw [h2 s] at h3
  exact h3
theorem CntAt.bump {w : World} {b n : Nat} {g : ByteArray → Nat} (h : CntAt w b n g) {s : ByteArray} (hs : s.size ≤ 9223372036854775807) (hn : n ≤ 1000000) :
    ∃ w', (Instr.mapUpdate 52 (.map (some b)) (.string s) (.int .i64 ((g s : Nat) + 1 : Int))).run Tryd.prog w = .ok () w' ∧ CntAt w' b (n + 1) (fun t => g t + if s = t then 1 else 0) ∧ w.grownBy w' (some b) := by
  obtain ⟨f, h1, h2⟩ := h
  obtain ⟨w', r1, r2, r3⟩ := h1.store (t := 52) lKey Tryd.underlying52 (s := s) hs (by unfold maxLen; omega) (.int .i64 ((g s : Nat) + 1 : Int))
  refine ⟨w', r1, ⟨_, r2, fun t => ?_⟩, r3⟩
  unfold upd
  show (if t = s then some (Value.int .i64 ((g s : Nat) + 1 : Int)) else f t).getD (.int .i64 0) = .int .i64 ((g t + if s = t then 1 else 0 : Nat) : Int)
  by_cases he : t = s
  · subst he; rw [if_pos rfl, if_pos rfl]; rfl
  · rw [if_neg he, if_neg (show ¬ s = t from fun e => he e.symm), Nat.add_zero]; exact h2 t
/-- how often a name stands in a list -/
def cntN (l : List ByteArray) (s : ByteArray) : Nat := l.countP (fun x => decide (x = s))
theorem cntN_snoc (l : List ByteArray) (x : ByteArray) : cntN (l ++ [x]) = fun t => cntN l t + if x = t then 1 else 0 := by
  funext t
  unfold cntN
  rw [List.countP_append, List.countP_singleton]
  by_cases h : x = t <;> simp [h]
theorem cntN_le (l : List ByteArray) (s : ByteArray) : cntN l s ≤ l.length := List.countP_le_length
theorem locks_small : ∀ (t : Tree) (w : World) (a : Option Addr), Rep w t a → ∀ s ∈ t.locks, s.size ≤ 9223372036854775807 := by
  intro t
  induction t using Tree.ind with
  | h t ih =>
    intro w a hv s hs
    rw [Tree.locks_eq, List.mem_append] at hs
    rcases hs with hs | hs
    · by_cases hk : t.kind = 46
      · rw [if_pos hk] at hs
        obtain rfl := List.mem_singleton.1 hs
        exact hv.fits.name
      · rw [if_neg hk] at hs; cases hs
    · have key : ∀ n, n ≤ t.len → s ∈ catTo (fun i => (t.kid i).locks) n → s.size ≤ 9223372036854775807 := by
        intro n
        induction n with
        | zero => intro _ h; cases h
        | succ n ihn =>
          intro hn h
          rcases List.mem_append.1 h with h | h
          · exact ihn (by omega) h
          · rcases hv.kids with h0 | ⟨b, off, _, hc⟩
            · omega
            · obtain ⟨ai, ci, _, hr⟩ := hc n (by omega)
              exact ih n (by omega) w ai hr s h
      exact key t.len (Nat.le_refl _) hs
/-- the instructions that answer in blocks -/
def cB (f : Ins → Bool) (l : List Blk) : Nat := (l.map (fun b => b.code.countP f)).sum
theorem cB_next {f : Ins → Bool} {l : List Blk} {j : Nat} {b : Blk} (h : l[j]? = some b) : cB f (l.take (j + 1)) = cB f (l.take j) + b.code.countP f := by
  unfold cB
  rw [List.take_add_one, h, List.map_append, List.sum_append]
  simp
theorem cB_le {f : Ins → Bool} {l : List Blk} {j : Nat} : cB f (l.take j) ≤ cB f l := by
  unfold cB
  have h : (l.map (fun b => b.code.countP f)).sum = ((l.take j).map (fun b => b.code.countP f)).sum + ((l.drop j).map (fun b => b.code.countP f)).sum := by
    rw [← List.sum_append, ← List.map_append, List.take_append_drop]
  omega
theorem cB_at {f : Ins → Bool} {l : List Blk} {j m : Nat} {b : Blk} (h : l[j]? = some b) : cB f (l.take j) + (b.code.take m).countP f ≤ cB f l := by
  have h1 := cB_next (f := f) h
  have h2 := cB_le (f := f) (l := l) (j := j + 1)
  have h3 : (b.code.take m).countP f ≤ b.code.countP f := (List.take_sublist m b.code).countP_le
  omega
theorem code_next {f : Ins → Bool} {l : List Ins} {m : Nat} {c : Ins} (h : l[m]? = some c) : (l.take (m + 1)).countP f = (l.take m).countP f + if f c then 1 else 0 := by
  rw [List.take_add_one, h, List.countP_append]
  simp [List.countP_cons]
/-- the three maps that count -/
def LkSt (V : World) (vb lb ub n : Nat) (L : List ByteArray) (n1 n2 : Nat) (g1 g2 : ByteArray → Nat) (w' : World) : Prop := CntAt w' lb n1 g1 ∧ CntAt w' ub n2 g2 ∧ CntAt w' vb n (cntN L) ∧ Below V.heap.size V w'
section
variable {V : World} {vb lb ub n n1 n2 : Nat} {L : List ByteArray} {g1 g2 : ByteArray → Nat} {w w' : World}
theorem LkSt.keep (h : LkSt V vb lb ub n L n1 n2 g1 g2 w) (hB : Below w.heap.size w w') : LkSt V vb lb ub n L n1 n2 g1 g2 w' := ⟨h.1.below hB, h.2.1.below hB, h.2.2.1.below hB, h.2.2.2.trans (hB.mono h.2.2.2.size)⟩
theorem LkSt.lock (h : LkSt V vb lb ub n L n1 n2 g1 g2 w) {s : ByteArray} (hs : s.size ≤ 9223372036854775807) (hn : n1 ≤ 1000000) (h1 : ub ≠ lb) (h2 : vb ≠ lb) (h3 : V.heap.size ≤ lb) :
    ∃ w', (Instr.mapUpdate 52 (.map (some lb)) (.string s) (.int .i64 ((g1 s : Nat) + 1 : Int))).run Tryd.prog w = .ok () w' ∧ LkSt V vb lb ub n L (n1 + 1) n2 (fun t => g1 t + if s = t then 1 else 0) g2 w' := by
  obtain ⟨w', r1, r2, r3⟩ := h.1.bump hs hn
  exact ⟨w', r1, r2, h.2.1.move (r3.block _ h.2.1.lt (fun e => h1 (Option.some.inj e))), h.2.2.1.move (r3.block _ h.2.2.1.lt (fun e => h2 (Option.some.inj e))), h.2.2.2.grown r3 h.2.2.2.size (fun k hk => by cases hk; exact h3)⟩
theorem LkSt.unlock (h : LkSt V vb lb ub n L n1 n2 g1 g2 w) {s : ByteArray} (hs : s.size ≤ 9223372036854775807) (hn : n2 ≤ 1000000) (h1 : lb ≠ ub) (h2 : vb ≠ ub) (h3 : V.heap.size ≤ ub) :
    ∃ w', (Instr.mapUpdate 52 (.map (some ub)) (.string s) (.int .i64 ((g2 s : Nat) + 1 : Int))).run Tryd.prog w = .ok () w' ∧ LkSt V vb lb ub n L n1 (n2 + 1) g1 (fun t => g2 t + if s = t then 1 else 0) w' := by
  obtain ⟨w', r1, r2, r3⟩ := h.2.1.bump hs hn
  exact ⟨w', r1, h.1.move (r3.block _ h.1.lt (fun e => h1 (Option.some.inj e))), r2, h.2.2.1.move (r3.block _ h.2.2.1.lt (fun e => h2 (Option.some.inj e))), h.2.2.2.grown r3 h.2.2.2.size (fun k hk => by cases hk; exact h3)⟩
end
theorem lowerLocks_any (p : Prg) (k : Int) (w : World) (sa ta : Option Addr) (sc tc : Nat) (hp : PrgAt w p sa ta) (hg : SignsIn w) (hk : isI64 k) :
    Calls Tryd.prog 5 #[p.val sa sc ta tc, .int .i64 k] w fun e w' => e = .returned (.bool true) ∧ Below w.heap.size w w' := by
  have htl := hp.2.1
  have HKK := Lib.hid hk
  have hk1 := hk.1
  have hk2 := hk.2
  obtain ⟨A0, h0⟩ : ∃ A0 : World, w.alloc (prgObj p sa sc ta tc) = A0 := ⟨_, rfl⟩
  have HB0 : Hid (Below w.heap.size w A0) := by show Below _ _ _; rw [← h0]; exact mem_alloc _ _
  have HX0 : Hid (A0.heap[w.heap.size]? = some (prgObj p sa sc ta tc)) := by show _ = _; rw [← h0]; exact mem_new _ _
  have HK : Hid (∀ w', Below A0.heap.size A0 w' → w'.heap[w.heap.size]? = some (prgObj p sa sc ta tc) ∧ PrgAt w' p sa ta ∧ Below w.heap.size w w' ∧ SignsIn w') := fun w' h =>
    ⟨mem_keep HX0.out h, hp.below (mem_then HB0.out h), mem_then HB0.out h, hg.below (mem_then HB0.out h)⟩
  clear hp hg hk
  go_enter Tryd.func5, Tryd.ntmps5
  go_wp2_with fail
  clear h0
  refine (lawake_any A0 (HK.out A0 (Below.refl _ _)).2.2.2).mono ?_
  rintro e w1 ⟨rfl, hB1⟩
  have HB1 := Lib.hid hB1
  have y0 : w1.cell? ⟨w.heap.size, 0, none⟩ = some (.slice sa p.shared.length sc) := mem_cell (HK.out w1 hB1).1 0
  have y1 : w1.cell? ⟨w.heap.size, 1, none⟩ = some (.slice ta p.tasks.length tc) := mem_cell (HK.out w1 hB1).1 1
  clear hB1
  go_wp2_with fail
  clear y0 y1
  refine (translated_fn p k w1 sa ta sc tc (HK.out w1 HB1.out).2.1 (HK.out w1 HB1.out).2.2.2 HKK.out).mono ?_
  rintro e w2 ⟨F, b, aa, ac, ba, bc, rfl, hfn, hB2, hyes⟩
  have HB2 := Lib.hid (mem_then HB1.out hB2)
  obtain ⟨an, hn1⟩ : ∃ n, F.arrays.length = n := ⟨_, rfl⟩
  obtain ⟨bn, hn2⟩ : ∃ n, F.blocks.length = n := ⟨_, rfl⟩
  have HNN : Hid (F.arrays.length = an ∧ F.blocks.length = bn) := ⟨hn1, hn2⟩
  simp only [hn1, hn2]
  obtain ⟨V, hV⟩ : ∃ X : World, w2.alloc (fnObj F.name F.regs (.slice aa an ac) (.slice ba bn bc)) = X := ⟨_, rfl⟩
  have HV0 : Hid (Below w2.heap.size w2 V) := by show Below _ _ _; rw [← hV]; exact mem_alloc _ _
  have HVX : Hid (V.heap[w2.heap.size]? = some (fnObj F.name F.regs (.slice aa an ac) (.slice ba bn bc))) := by show _ = _; rw [← hV]; exact mem_new _ _
  have HFN := Lib.hid (hfn.at_.below HV0.out)
  have HV := Lib.hid (mem_then HB2.out HV0.out)
  clear hfn hB2 hn1 hn2
  cases b with
  | false =>
    clear hyes
    go_wp2_with fail
    go_ret
    exact ⟨rfl, (HK.out V HV.out).2.2.1⟩
  | true =>
  obtain ⟨hok, ⟨hk0, hkl⟩, hF⟩ := hyes rfl
  have HOK := Lib.hid hok
  have HF := Lib.hid hF
  obtain ⟨j, rfl⟩ : ∃ j : Nat, k = (j : Int) := ⟨k.toNat, by omega⟩
  have hj : j < p.tasks.length := by omega
  have HJ := Lib.hid hj
  obtain ⟨tb, to', q, rfl, htc, htin⟩ := (HK.out V HV.out).2.1.2.2 j hj
  obtain ⟨t, ht⟩ : ∃ t, p.tasks.getD j Tsk.none = t := ⟨_, rfl⟩
  have HT := Lib.hid ht
  rw [ht] at htc htin
  have HTI := Lib.hid htin
  have hmm := @run_makeMap Tryd.prog
  obtain ⟨M0, hM0⟩ : ∃ X : World, V.alloc (.map #[] 0) = X := ⟨_, rfl⟩
  have HBM : Hid (Below V.heap.size V M0) := by show Below _ _ _; rw [← hM0]; exact mem_alloc _ _
  have HFM : Hid (FMap Tryd.prog LKey M0 V.heap.size 0 (fun _ => none)) := by show FMap _ _ _ _ _ _; rw [← hM0]; exact FMap.made _ _ _
  have HM0 := Lib.hid (mem_then HV.out HBM.out)
  obtain ⟨⟨g0, g1, g2, g3, g4, g5, g6, g7⟩, _⟩ := tsk_cells HBM.out htc
  have y1 : M0.cell? ⟨w.heap.size, 1, none⟩ = some (.slice (some ⟨tb, to', none⟩) p.tasks.length tc) := mem_cell (HK.out M0 HM0.out).1 1
  have htv := (prgOk_le (okP_ok HOK.out)).2.2 j hj
  rw [HT.out] at htv
  have HTV := Lib.hid htv
  clear hyes hok hF htc htin ht htv
  go_wp2_with fail
  clear hM0 g0 g1 g2 g3 g4 g5 g6 g7 y1
  refine (locks_any t.body M0 q.ka q.kc (HTI.out.body.below HBM.out) (by have := (tskOk_le HTV.out).2.2; omega)).mono ?_
  rintro e w4 ⟨va, vc, rfl, hown, hB4⟩
  have HOWN := Lib.hid hown
  have HB40 := Lib.hid hB4
  have HB4 := Lib.hid (mem_then HM0.out hB4)
  have HFM4 := Lib.hid (HFM.out.below hB4)
  clear hown hB4
  go_wp2_with fail
  have HLL : Hid (t.body.locks.length ≤ 10000) := Nat.le_trans (Nat.le_trans (locks_len _) (tskOk_le HTV.out).2.2) (by decide)
  have HLZ : Hid (∀ s ∈ t.body.locks, s.size ≤ 9223372036854775807) := locks_small _ _ _ HTI.out.body
  have HC4 : Hid (CntAt w4 V.heap.size 0 (fun _ => 0)) := ⟨_, HFM4.out, fun _ => rfl⟩
  have HVM : Hid (V.heap.size < M0.heap.size) := HFM.out.lt
  obtain ⟨L, hL⟩ : ∃ L, t.body.locks = L := ⟨_, rfl⟩
  have HLE := Lib.hid hL
  rw [hL] at HOWN HLL HLZ ⊢
  obtain ⟨n, hn⟩ : ∃ n, L.length = n := ⟨_, rfl⟩
  have HN := Lib.hid hn
  rw [hn] at HOWN HLL ⊢
  have hvn : n ≤ 10000 := HLL.out
  clear hL hn
  go_loopw [37] (fun iv wr => ∃ j : Nat, j ≤ n ∧ iv = .int .i64 (j : Int) ∧ CntAt wr V.heap.size j (cntN (L.take j)) ∧ w4.grownBy wr (some V.heap.size)) (fun iv _ => n - (intOf iv).toNat)
  case atStart => exact ⟨0, Nat.zero_le _, rfl, HC4.out, World.grownBy.refl _ _⟩
  case round =>
    obtain ⟨i, hi, rfl, hct, hgr⟩ := hrel
    have HGR := Lib.hid hgr
    have HCT := Lib.hid hct
    have hi0 : (0 : Int) ≤ (i : Int) := by omega
    clear hct hgr
    by_cases hlt : i < n
    · have HLT : Hid (i < n) := hlt
      have hlt2 : (i : Int) < (n : Int) := by omega
      obtain ⟨s, hs⟩ : ∃ s, L[i]? = some s := ⟨_, List.getElem?_eq_getElem (by rw [HN.out]; exact hlt)⟩
      have HSS := Lib.hid (HLZ.out s (List.mem_of_getElem? hs))
      have hne : (Value.slice va n vc).ownBlock ≠ some V.heap.size := fun e => by have := (own_lt HOWN.out e).1; have := HVM.out; omega
      have how := own_keep (w' := wr) HOWN.out (fun k hk hl => HGR.out.block k hl (fun e => hne (hk.trans (by rw [← e]))))
      obtain ⟨sb, rfl, _, _⟩ := own_at how (by omega)
      have r0 : wr.cell? ⟨sb, i, none⟩ = some (.string s) := own_cell how (by rw [List.getElem?_map, hs]; rfl)
      have hlk := HCT.out.look HSS.out
      obtain ⟨w6, hup, hct6, hgr6⟩ := HCT.out.bump HSS.out (by omega)
      have hck := cntN_le (L.take i) s
      have hck2 : (L.take i).length ≤ n := by rw [List.length_take]; omega
      have HNX : Hid (cntN (L.take (i + 1)) = fun t => cntN (L.take i) t + if s = t then 1 else 0) := by
        show _ = _
        rw [List.take_add_one, hs]
        exact cntN_snoc _ _
      obtain ⟨k0, hk0⟩ : ∃ k, cntN (L.take i) s = k := ⟨_, rfl⟩
      rw [hk0] at hlk hup hck
      have HC6 := Lib.hid hct6
      have HG6 := Lib.hid (HGR.out.trans hgr6)
      have hk1 : k0 ≤ 10000 := by omega
      clear hct6 hgr6 hk0 hs how hne hlt hck hck2
      go_wp2_with fail
      go_roundw
      case rel => exact ⟨i + 1, by have := HLT.out; omega, by go_num, by rw [HNX.out]; exact HC6.out, HG6.out⟩
      case measure => have := HLT.out; simp [intOf]; omega
    · obtain rfl : i = n := by omega
      clear hlt
      obtain ⟨X1, hX1⟩ : ∃ X : World, wr.alloc (.map #[] 0) = X := ⟨_, rfl⟩
      obtain ⟨X2, hX2⟩ : ∃ X : World, X1.alloc (.map #[] 0) = X := ⟨_, rfl⟩
      have HB1' : Hid (Below wr.heap.size wr X1) := by show Below _ _ _; rw [← hX1]; exact mem_alloc _ _
      have HB2' : Hid (Below X1.heap.size X1 X2) := by show Below _ _ _; rw [← hX2]; exact mem_alloc _ _
      have HS1 : Hid (X1.heap.size = wr.heap.size + 1) := by show _ = _; rw [← hX1]; simp
      have HCL : Hid (CntAt X2 wr.heap.size 0 (fun _ => 0)) := by
        have h9 := CntAt.made wr
        rw [hX1] at h9
        exact h9.below HB2'.out
      have HCU : Hid (CntAt X2 X1.heap.size 0 (fun _ => 0)) := by
        have h9 := CntAt.made X1
        rw [hX2] at h9
        exact h9
      have HCC : Hid (CntAt X2 V.heap.size i (cntN L)) := by
        have h9 := HCT.out
        rw [show L.take i = L from by rw [← HN.out, List.take_length]] at h9
        exact (h9.below HB1'.out).below HB2'.out
      have HBX : Hid (Below V.heap.size V X2) := ((HBM.out.trans (HB40.out.mono HBM.out.size)).grown HGR.out (Nat.le_trans HBM.out.size HB40.out.size) (fun k hk => by cases hk; exact Nat.le_refl _)).trans ((mem_then HB1'.out HB2'.out).mono (Nat.le_trans HBM.out.size (Nat.le_trans HB40.out.size HGR.out.size)))
      obtain ⟨v0, v1, v2, v3, _⟩ := fn_four (mem_keep HVX.out HBX.out)
      have HVW : Hid (V.heap.size < wr.heap.size) := Nat.lt_of_lt_of_le HVM.out (Nat.le_trans HB40.out.size HGR.out.size)
      have HNE : Hid (X1.heap.size ≠ wr.heap.size ∧ V.heap.size ≠ wr.heap.size ∧ V.heap.size ≠ X1.heap.size ∧ V.heap.size ≤ wr.heap.size ∧ V.heap.size ≤ X1.heap.size) := by have := HS1.out; have := HVW.out; show _ ∧ _; omega
      have HST : Hid (LkSt V V.heap.size wr.heap.size X1.heap.size i L 0 0 (fun _ => 0) (fun _ => 0) X2) := ⟨HCL.out, HCU.out, HCC.out, HBX.out⟩
      have HTOT : Hid (∀ f P, CntF f P → cB f F.blocks ≤ 10000) := fun f P hf => by
        have h1 := lowFn_few hf p.shared t (tskOk_body HTV.out)
        rw [HF.out, Int.toNat_natCast, HT.out]
        have h2 := HLL.out
        rw [HLE.out, HN.out] at h1
        exact Nat.le_trans h1 h2
      obtain ⟨lb, hlb⟩ : ∃ k, wr.heap.size = k := ⟨_, rfl⟩
      obtain ⟨ub, hub⟩ : ∃ k, X1.heap.size = k := ⟨_, rfl⟩
      have HLB := Lib.hid (And.intro hlb hub)
      go_wp2_with fail
      clear hX1 hX2 v0 v1 v2 v3
      rw [HLB.out.1, HLB.out.2] at HST HNE
      try rw [HLB.out.1]
      try rw [HLB.out.2]
      clear hlb hub
      have hbi : bn ≤ 9223372036854775807 := by rw [← HNN.out.2]; exact HFN.out.blocks.fits
      go_loopw [51] (fun iv wr => ∃ a : Nat, a ≤ bn ∧ iv = .int .i64 (a : Int) ∧ LkSt V V.heap.size lb ub i L (cB (opA 11) (F.blocks.take a)) (cB (opA 12) (F.blocks.take a)) (fun s => cB (opS 11 s) (F.blocks.take a)) (fun s => cB (opS 12 s) (F.blocks.take a)) wr) (fun iv _ => bn - (intOf iv).toNat)
      case atStart => exact ⟨0, Nat.zero_le _, rfl, HST.out⟩
      case round =>
        clear HST
        obtain ⟨a, ha, rfl, hst⟩ := hrel
        have HST := Lib.hid hst
        have ha0 : (0 : Int) ≤ (a : Int) := by omega
        clear hst
        by_cases hat : a < bn
        · have HAT : Hid (a < bn) := hat
          have hat2 : (a : Int) < (bn : Int) := by omega
          obtain ⟨x, hx⟩ : ∃ x, F.blocks[a]? = some x := ⟨_, List.getElem?_eq_getElem (by rw [HNN.out.2]; exact hat)⟩
          have HX := Lib.hid hx
          rcases HFN.out.blocks.at_ with h0 | ⟨gb, go', rfl, hcs⟩
          · exfalso; rw [HNN.out.2] at h0; omega
          obtain ⟨ca, cc, ⟨e0, e1, e2, e3, e4⟩, hcode⟩ := hcs a x hx
          have c0 := cell_below HST.out.2.2.2 e0
          have c1 := cell_below HST.out.2.2.2 e1
          have c2 := cell_below HST.out.2.2.2 e2
          have c3 := cell_below HST.out.2.2.2 e3
          have c4 := cell_below HST.out.2.2.2 e4
          clear e0 e1 e2 e3 e4
          obtain ⟨nc, hnc⟩ : ∃ k, x.code.length = k := ⟨_, rfl⟩
          have HNC := Lib.hid hnc
          rw [hnc] at c0
          obtain ⟨D, hD⟩ : ∃ D : World, wr.alloc (.cells #[.slice ca nc cc, .int .u8 x.kind, .int .i64 x.x, .int .i64 x.to, .int .i64 x.els] 46) = D := ⟨_, rfl⟩
          have hBD : Below wr.heap.size wr D := by rw [← hD]; exact mem_alloc _ _
          have hXD : D.heap[wr.heap.size]? = some (.cells #[.slice ca nc cc, .int .u8 x.kind, .int .i64 x.x, .int .i64 x.to, .int .i64 x.els] 46) := by rw [← hD]; exact mem_new _ _
          have d0 : D.cell? ⟨wr.heap.size, 0, none⟩ = some (.slice ca nc cc) := mem_cell hXD 0
          have HSD := Lib.hid (HST.out.keep hBD)
          have HCODE := Lib.hid hcode
          have hci : nc ≤ 9223372036854775807 := by rw [← hnc]; exact hcode.fits
          have HSD0 : Hid (LkSt V V.heap.size lb ub i L (cB (opA 11) (F.blocks.take a) + (x.code.take 0).countP (opA 11)) (cB (opA 12) (F.blocks.take a) + (x.code.take 0).countP (opA 12)) (fun s => cB (opS 11 s) (F.blocks.take a) + (x.code.take 0).countP (opS 11 s)) (fun s => cB (opS 12 s) (F.blocks.take a) + (x.code.take 0).countP (opS 12 s)) D) := HSD.out
          clear hx hcs hcode hnc hBD hXD hat HST
          go_wp2_with fail
          clear c0 c1 c2 c3 c4 d0 hD
          go_loopw [58] (fun iv wx => ∃ m : Nat, m ≤ nc ∧ iv = .int .i64 (m : Int) ∧ LkSt V V.heap.size lb ub i L (cB (opA 11) (F.blocks.take a) + (x.code.take m).countP (opA 11)) (cB (opA 12) (F.blocks.take a) + (x.code.take m).countP (opA 12)) (fun s => cB (opS 11 s) (F.blocks.take a) + (x.code.take m).countP (opS 11 s)) (fun s => cB (opS 12 s) (F.blocks.take a) + (x.code.take m).countP (opS 12 s)) wx) (fun iv _ => nc - (intOf iv).toNat)
          case atStart => exact ⟨0, Nat.zero_le _, rfl, HSD0.out⟩
          case round =>
            clear HSD0 HSD
            obtain ⟨m, hm, rfl, hst⟩ := hrel
            have HST := Lib.hid hst
            have hm0 : (0 : Int) ≤ (m : Int) := by omega
            clear hst
            by_cases hmt : m < nc
            · have HMT : Hid (m < nc) := hmt
              have hmt2 : (m : Int) < (nc : Int) := by omega
              obtain ⟨c, hc⟩ : ∃ c, x.code[m]? = some c := ⟨_, List.getElem?_eq_getElem (by rw [HNC.out]; exact hmt)⟩
              have HC := Lib.hid hc
              have HWF := Lib.hid (HCODE.out.wf c (List.mem_of_getElem? hc))
              rcases HCODE.out.at_ with h0 | ⟨gc, gf, rfl, hcs⟩
              · exfalso; rw [HNC.out] at h0; omega
              obtain ⟨e0, e1, e2, e3, e4, e5⟩ := hcs m c hc
              have c0 := cell_below HST.out.2.2.2 e0
              have c1 := cell_below HST.out.2.2.2 e1
              have c2 := cell_below HST.out.2.2.2 e2
              have c3 := cell_below HST.out.2.2.2 e3
              have c4 := cell_below HST.out.2.2.2 e4
              have c5 := cell_below HST.out.2.2.2 e5
              obtain ⟨E, hE⟩ : ∃ E : World, wr.alloc (.cells #[.int .u8 c.op, .int .i64 c.dst, .int .i64 c.x, .int .i64 c.y, .int .i64 c.imm, .string c.sym] 48) = E := ⟨_, rfl⟩
              have hBE : Below wr.heap.size wr E := by rw [← hE]; exact mem_alloc _ _
              have hXE : E.heap[wr.heap.size]? = some (.cells #[.int .u8 c.op, .int .i64 c.dst, .int .i64 c.x, .int .i64 c.y, .int .i64 c.imm, .string c.sym] 48) := by rw [← hE]; exact mem_new _ _
              have b0 : E.cell? ⟨wr.heap.size, 0, none⟩ = some (.int .u8 c.op) := mem_cell hXE 0
              have b5 : E.cell? ⟨wr.heap.size, 5, none⟩ = some (.string c.sym) := mem_cell hXE 5
              have HSE := Lib.hid (HST.out.keep hBE)
              have HN11 := Lib.hid (code_next (f := opA 11) hc)
              have HN12 := Lib.hid (code_next (f := opA 12) hc)
              have HS11 : Hid (∀ s, (x.code.take (m + 1)).countP (opS 11 s) = (x.code.take m).countP (opS 11 s) + if opS 11 s c then 1 else 0) := fun s => code_next hc
              have HS12 : Hid (∀ s, (x.code.take (m + 1)).countP (opS 12 s) = (x.code.take m).countP (opS 12 s) + if opS 12 s c then 1 else 0) := fun s => code_next hc
              have HTA : Hid (cB (opA 11) (F.blocks.take a) + (x.code.take m).countP (opA 11) ≤ 10000 ∧ cB (opA 12) (F.blocks.take a) + (x.code.take m).countP (opA 12) ≤ 10000) := ⟨Nat.le_trans (cB_at HX.out) (HTOT.out _ _ cnt_locks), Nat.le_trans (cB_at HX.out) (HTOT.out _ _ cnt_unlocks)⟩
              have HTS : Hid (cB (opS 11 c.sym) (F.blocks.take a) + (x.code.take m).countP (opS 11 c.sym) ≤ 10000 ∧ cB (opS 12 c.sym) (F.blocks.take a) + (x.code.take m).countP (opS 12 c.sym) ≤ 10000) := ⟨Nat.le_trans (cB_at HX.out) (HTOT.out _ _ (cnt_lock c.sym)), Nat.le_trans (cB_at HX.out) (HTOT.out _ _ (cnt_unlock c.sym))⟩
              clear hc hcs e0 e1 e2 e3 e4 e5 hBE hXE hmt HST
              by_cases k11 : c.op = 11
              · have k11d : (c.op == 11) = true := by simpa using k11
                have hlk := HSE.out.1.look HWF.out.sym
                obtain ⟨w6, hup, hst6⟩ := HSE.out.lock (s := c.sym) HWF.out.sym (by have := HTA.out.1; omega) HNE.out.1 HNE.out.2.1 HNE.out.2.2.2.1
                obtain ⟨k0, hk0⟩ : ∃ k, cB (opS 11 c.sym) (F.blocks.take a) + (x.code.take m).countP (opS 11 c.sym) = k := ⟨_, rfl⟩
                have hk1 : k0 ≤ 10000 := by rw [← hk0]; exact HTS.out.1
                simp only [hk0] at hlk hup
                have HSX : Hid (LkSt V V.heap.size lb ub i L (cB (opA 11) (F.blocks.take a) + (x.code.take (m + 1)).countP (opA 11)) (cB (opA 12) (F.blocks.take a) + (x.code.take (m + 1)).countP (opA 12)) (fun s => cB (opS 11 s) (F.blocks.take a) + (x.code.take (m + 1)).countP (opS 11 s)) (fun s => cB (opS 12 s) (F.blocks.take a) + (x.code.take (m + 1)).countP (opS 12 s)) w6) := by
                  show LkSt _ _ _ _ _ _ _ _ _ _ _
                  rw [HN11.out, HN12.out]
                  simp only [HS11.out, HS12.out]
                  simp only [opA, opS, k11, decide_true, Bool.true_and, if_true, show decide ((11 : Int) = 12) = false from rfl, Bool.false_and, Bool.false_eq_true, if_false, Nat.add_zero, decide_eq_true_eq]
                  simpa only [Nat.add_assoc] using hst6
                clear hst6 hk0 k11
                go_wp2_with fail
                clear c0 c1 c2 c3 c4 c5 b0 b5 hE hlk hup
                go_roundw
                case rel => exact ⟨m + 1, by have := HMT.out; omega, by go_num, HSX.out⟩
                case measure => have := HMT.out; simp [intOf]; omega
              have k11d : (c.op == 11) = false := by simpa using k11
              by_cases k12 : c.op = 12
              · have k12d : (c.op == 12) = true := by simpa using k12
                have hlk := HSE.out.2.1.look HWF.out.sym
                obtain ⟨w6, hup, hst6⟩ := HSE.out.unlock (s := c.sym) HWF.out.sym (by have := HTA.out.2; omega) (fun e => HNE.out.1 e.symm) HNE.out.2.2.1 HNE.out.2.2.2.2
                obtain ⟨k0, hk0⟩ : ∃ k, cB (opS 12 c.sym) (F.blocks.take a) + (x.code.take m).countP (opS 12 c.sym) = k := ⟨_, rfl⟩
                have hk1 : k0 ≤ 10000 := by rw [← hk0]; exact HTS.out.2
                simp only [hk0] at hlk hup
                have HSX : Hid (LkSt V V.heap.size lb ub i L (cB (opA 11) (F.blocks.take a) + (x.code.take (m + 1)).countP (opA 11)) (cB (opA 12) (F.blocks.take a) + (x.code.take (m + 1)).countP (opA 12)) (fun s => cB (opS 11 s) (F.blocks.take a) + (x.code.take (m + 1)).countP (opS 11 s)) (fun s => cB (opS 12 s) (F.blocks.take a) + (x.code.take (m + 1)).countP (opS 12 s)) w6) := by
                  show LkSt _ _ _ _ _ _ _ _ _ _ _
                  rw [HN11.out, HN12.out]
                  simp only [HS11.out, HS12.out]
                  simp only [opA, opS, k12, decide_true, Bool.true_and, if_true, show decide ((12 : Int) = 11) = false from rfl, Bool.false_and, Bool.false_eq_true, if_false, Nat.add_zero, decide_eq_true_eq]
                  simpa only [Nat.add_assoc] using hst6
                clear hst6 hk0 k11 k12
                go_wp2_with fail
                clear c0 c1 c2 c3 c4 c5 b0 b5 hE hlk hup
                go_roundw
                case rel => exact ⟨m + 1, by have := HMT.out; omega, by go_num, HSX.out⟩
                case measure => have := HMT.out; simp [intOf]; omega
              have k12d : (c.op == 12) = false := by simpa using k12
              have HSX : Hid (LkSt V V.heap.size lb ub i L (cB (opA 11) (F.blocks.take a) + (x.code.take (m + 1)).countP (opA 11)) (cB (opA 12) (F.blocks.take a) + (x.code.take (m + 1)).countP (opA 12)) (fun s => cB (opS 11 s) (F.blocks.take a) + (x.code.take (m + 1)).countP (opS 11 s)) (fun s => cB (opS 12 s) (F.blocks.take a) + (x.code.take (m + 1)).countP (opS 12 s)) E) := by
                show LkSt _ _ _ _ _ _ _ _ _ _ _
                rw [HN11.out, HN12.out]
                simp only [HS11.out, HS12.out]
                simp only [opA, opS, decide_eq_false k11, decide_eq_false k12, Bool.false_and, Bool.false_eq_true, if_false, Nat.add_zero]
                exact HSE.out
              clear k11 k12
              go_wp2_with fail
              clear c0 c1 c2 c3 c4 c5 b0 b5 hE
              go_roundw
              case rel => exact ⟨m + 1, by have := HMT.out; omega, by go_num, HSX.out⟩
              case measure => have := HMT.out; simp [intOf]; omega
            · obtain rfl : m = nc := by omega
              have HSX : Hid (LkSt V V.heap.size lb ub i L (cB (opA 11) (F.blocks.take (a + 1))) (cB (opA 12) (F.blocks.take (a + 1))) (fun s => cB (opS 11 s) (F.blocks.take (a + 1))) (fun s => cB (opS 12 s) (F.blocks.take (a + 1))) wr) := by
                have h9 := HST.out
                rw [show x.code.take m = x.code from by rw [← HNC.out, List.take_length]] at h9
                show LkSt _ _ _ _ _ _ _ _ _ _ _
                simp only [cB_next HX.out]
                exact h9
              clear hmt
              go_wp2_with fail
              go_roundw
              case rel => exact ⟨a + 1, by have := HAT.out; omega, by go_num, HSX.out⟩
              case measure => have := HAT.out; simp [intOf]; omega
        · obtain rfl : a = bn := by omega
          have HEND : Hid (LkSt V V.heap.size lb ub i L (cB (opA 11) F.blocks) (cB (opA 12) F.blocks) (cntN L) (cntN L) wr) := by
            have h9 := HST.out
            rw [show F.blocks.take a = F.blocks from by rw [← HNN.out.2, List.take_length]] at h9
            have e1 : ∀ s, cB (opS 11 s) F.blocks = cntN L s := fun s => by
              have h1 := lowFn_cnt (cnt_lock s) p.shared t (tskOk_body HTV.out)
              rw [HLE.out] at h1
              rw [HF.out, Int.toNat_natCast, HT.out]
              exact h1
            have e2 : ∀ s, cB (opS 12 s) F.blocks = cntN L s := fun s => by
              have h1 := lowFn_cnt (cnt_unlock s) p.shared t (tskOk_body HTV.out)
              rw [HLE.out] at h1
              rw [HF.out, Int.toNat_natCast, HT.out]
              exact h1
            simp only [e1, e2] at h9
            exact h9
          have HBV := Lib.hid (mem_then HV.out HEND.out.2.2.2)
          have y0 : wr.cell? ⟨w.heap.size, 0, none⟩ = some (.slice sa p.shared.length sc) := mem_cell (HK.out wr HBV.out).1 0
          have hsl : p.shared.length ≤ 9223372036854775807 := (HK.out wr HBV.out).2.1.1.1
          clear hat HST
          go_wp2_with fail
          clear y0
          go_loopw [83] (fun iv wx => ∃ d : Nat, d ≤ p.shared.length ∧ iv = .int .i64 (d : Int) ∧ LkSt V V.heap.size lb ub i L (cB (opA 11) F.blocks) (cB (opA 12) F.blocks) (cntN L) (cntN L) wx) (fun iv _ => p.shared.length - (intOf iv).toNat)
          case atStart => exact ⟨0, Nat.zero_le _, rfl, HEND.out⟩
          case round =>
            clear HEND HBV
            obtain ⟨d, hd, rfl, hst⟩ := hrel
            have HST := Lib.hid hst
            have HBV := Lib.hid (mem_then HV.out hst.2.2.2)
            have hd0 : (0 : Int) ≤ (d : Int) := by omega
            clear hst
            by_cases hdt : d < p.shared.length
            · have HDT : Hid (d < p.shared.length) := hdt
              have hdt2 : (d : Int) < (p.shared.length : Int) := by omega
              obtain ⟨xb, xo, rfl, c0, c1, hsz, hlen⟩ := (HK.out wr HBV.out).2.1.1.2 d hdt
              obtain ⟨y, hy⟩ : ∃ y, p.shared.getD d Arr.none = y := ⟨_, rfl⟩
              rw [hy] at c0 c1 hsz hlen
              obtain ⟨E, hE⟩ : ∃ E : World, wr.alloc (.cells #[.string y.name, .int .i64 y.len] 40) = E := ⟨_, rfl⟩
              have hBE : Below wr.heap.size wr E := by rw [← hE]; exact mem_alloc _ _
              have hXE : E.heap[wr.heap.size]? = some (.cells #[.string y.name, .int .i64 y.len] 40) := by rw [← hE]; exact mem_new _ _
              have b0 : E.cell? ⟨wr.heap.size, 0, none⟩ = some (.string y.name) := mem_cell hXE 0
              have HSE := Lib.hid (HST.out.keep hBE)
              have l1 := HSE.out.1.look hsz
              have l2 := HSE.out.2.1.look hsz
              have l3 := HSE.out.2.2.1.look hsz
              obtain ⟨k0, hk0⟩ : ∃ k, cntN L y.name = k := ⟨_, rfl⟩
              rw [hk0] at l1 l2 l3
              clear hy hBE hXE hsz hlen hk0 hdt HST
              go_wp2_with fail
              clear c0 c1 b0 hE l1 l2 l3
              go_roundw
              case rel => exact ⟨d + 1, by have := HDT.out; omega, by go_num, HSE.out⟩
              case measure => have := HDT.out; simp [intOf]; omega
            · obtain rfl : d = p.shared.length := by omega
              clear hdt
              go_wp2_with fail
              go_ret
              exact ⟨rfl, (HK.out wr HBV.out).2.2.1⟩
end Go.Proofs.YtkpdngfkdmllkaaDoor

/-
  Plain law of LowerLoops, first part: the instructions of loops are as many as the For and While statements, with their depths and numbers. No walk here.
-/
namespace Go.Proofs.YtkpdngfkdmllkaaDoor
set_option linter.unusedVariables false
set_option linter.unusedSimpArgs false
open Go.RowKit
set_option maxRecDepth 100000

def deepL (k : Int) (d : Nat) : Nat := if k = 42 ∨ k = 43 then d + 1 else d
/-- depth and number of the For and While statements, in pre-order -/
def Tree.loops : Tree → Nat → List (Nat × Int)
  | .node k n s l kid => fun d => (if k = 42 ∨ k = 43 then [(d, n)] else []) ++ catTo (fun i => if h : i < l then loops (kid ⟨i, h⟩) (deepL k d) else []) l
theorem Tree.loops_eq (t : Tree) (d : Nat) : t.loops d = (if t.kind = 42 ∨ t.kind = 43 then [(d, t.num)] else []) ++ catTo (fun i => (t.kid i).loops (deepL t.kind d)) t.len := by
  cases t with
  | node k n s l kid =>
    rw [Tree.loops]
    show _ ++ _ = (if k = 42 ∨ k = 43 then [(d, n)] else []) ++ catTo (fun i => ((Tree.node k n s l kid).kid i).loops (deepL k d)) l
    congr 1
    refine catTo_eq _ _ _ (fun i hi => ?_)
    rw [dif_pos hi, Tree.kid_node hi]
theorem loopsE : ∀ (t : Tree), t.vld 101 = true → ∀ d, t.loops d = [] := by
  intro t
  induction t using Tree.ind with
  | h t ih =>
    intro hv d
    obtain ⟨hk, _, hkid, _⟩ := vldE hv
    rw [Tree.loops_eq, if_neg (by omega), List.nil_append]
    exact catTo_nil _ (fun i hi => ih i hi (hkid i hi) _)
theorem loopsP {p : Tree} (h : p.vld 112 = true) (d : Nat) : p.loops d = [] := by
  have h0 := h
  rw [Tree.vld_eq, Bool.and_eq_true] at h
  obtain ⟨h1, h2⟩ := h
  have hk : p.kind = 2 ∨ p.kind = 3 := by
    unfold Fm.belongs at h1
    simpa using h1
  rw [if_neg (by omega)] at h2
  simp only [Bool.and_eq_true, decide_eq_true_eq] at h2
  obtain ⟨⟨⟨⟨h3, h4⟩, h5⟩, h6⟩, h7⟩ := h2
  rw [Tree.loops_eq, if_neg (by omega), List.nil_append]
  rcases hk with hk | hk
  · rw [hk] at h5
    have h5 : p.len = 0 := h5
    rw [h5]
    rfl
  · have h9 : p.len = 1 := by rw [hk] at h5; exact h5
    have h8 : (p.kid 0).vld 101 = true := by have h8 := Tree.allTo_iff.1 h7 0 (by omega); rw [hk] at h8; exact h8
    refine catTo_nil _ (fun i hi => ?_)
    obtain rfl : i = 0 := by omega
    exact loopsE _ h8 _
/-- an instruction's operation is none of a loop's -/
def CalmL (i : Ins) : Prop := i.op ≠ 13 ∧ i.op ≠ 14 ∧ i.op ≠ 16
theorem calmL_ins {op d x y imm : Int} {s : ByteArray} (h : op ≠ 13 ∧ op ≠ 14 ∧ op ≠ 16) : CalmL (insB op d x y imm s) := h
theorem lowB_calmL {E : LEnv} {V : VM} {k n : Int} {s : ByteArray} {f0 f1 : Nat → LE} (h0 : ∀ R, ∀ i ∈ (f0 R).code, CalmL i) (h1 : ∀ R, ∀ i ∈ (f1 R).code, CalmL i) (R : Nat) : ∀ i ∈ (lowB E V k n s f0 f1 R).code, CalmL i := by
  intro i hi
  unfold lowB at hi
  split at hi
  · simp only [List.mem_cons, List.not_mem_nil, or_false] at hi; subst hi; exact calmL_ins (by decide)
  split at hi
  · cases hi
  split at hi
  · simp only [List.mem_append, List.mem_cons, List.not_mem_nil, or_false] at hi
    rcases hi with hi | rfl | rfl
    · exact h0 _ _ hi
    · exact calmL_ins (by decide)
    · by_cases h : E.sh s = true
      · simp only [h, if_true]; exact calmL_ins (by decide)
      · rw [if_neg h]; exact calmL_ins (by decide)
  split at hi
  · simp only [List.mem_append, List.mem_cons, List.not_mem_nil, or_false] at hi
    rcases hi with hi | rfl | rfl
    · exact h0 _ _ hi
    · exact calmL_ins (by decide)
    · exact calmL_ins (by decide)
  split at hi
  · simp only [List.mem_append, List.mem_cons, List.not_mem_nil, or_false] at hi
    rcases hi with hi | rfl | rfl
    · exact h0 _ _ hi
    · exact calmL_ins (by decide)
    · exact calmL_ins (by decide)
  · simp only [List.mem_append, List.mem_cons, List.not_mem_nil, or_false] at hi
    rcases hi with (hi | hi) | rfl
    · exact h0 _ _ hi
    · exact h1 _ _ hi
    · exact calmL_ins (by decide)
theorem lowE_calmL (E : LEnv) (V : VM) : ∀ (t : Tree) (R : Nat), ∀ i ∈ (t.lowE E V R).code, CalmL i := by
  intro t
  induction t using Tree.ind with
  | h t ih =>
    intro R
    rw [Tree.lowE_eq]
    refine lowB_calmL (fun R i hi => ?_) (fun R i hi => ?_) R
    · by_cases h : 0 < t.len
      · rw [if_pos h] at hi; exact ih 0 h R i hi
      · rw [if_neg h] at hi; cases hi
    · by_cases h : 1 < t.len
      · rw [if_pos h] at hi; exact ih 1 h R i hi
      · rw [if_neg h] at hi; cases hi
theorem kidLE_calmL (E : LEnv) (t : Tree) (j : Nat) (V : VM) (R : Nat) : ∀ i ∈ (kidLE E t j V R).code, CalmL i := by
  intro i hi
  unfold kidLE at hi
  by_cases h : j < t.len
  · rw [if_pos h] at hi; exact lowE_calmL E V _ _ i hi
  · rw [if_neg h] at hi; cases hi
section
variable {f : Ins → Bool} {P : Nat × Int → Bool}
/-- a count that passes over calm instructions and takes of a loop's three what P says -/
structure CntL (f : Ins → Bool) (P : Nat × Int → Bool) : Prop where
  calm : ∀ i, CalmL i → f i = false
  three : ∀ (d : Nat) (n : Int), [insB 13 0 0 0 d noB, insB 16 0 d 0 n noB, insB 14 0 0 0 d noB].countP f = [(d, n)].countP P
theorem CntL.zero (h : CntL f P) {l : List Ins} (hl : ∀ i ∈ l, CalmL i) : l.countP f = 0 := by
  rw [List.countP_eq_zero]
  intro i hi
  rw [h.calm i (hl i hi)]
  decide
theorem CntL.one (h : CntL f P) {i : Ins} (hl : CalmL i) : [i].countP f = 0 := h.zero (fun x hx => by obtain rfl := List.mem_singleton.1 hx; exact hl)
theorem loop_cntL (h : CntL f P) {lim : Int} {d : Nat} {hd : LE} {enter : VM → VM} {b : LF} {k : Nat} {c : List Ins} {V : VM} {n : Nat} (h0 : hd.code.countP f = 0) (hb : ∀ k c R V, (b k c R V).cnt f = c.countP f + n) : (loopL lim d hd enter b k c V).cnt f = c.countP f + ([(d, lim)].countP P + n) := by
  unfold loopL
  dsimp only
  have c1 := hb (k + 2) [insB 16 0 d 0 lim noB] hd.regs (enter V)
  obtain ⟨q, hq⟩ : ∃ q, b (k + 2) [insB 16 0 d 0 lim noB] hd.regs (enter V) = q := ⟨_, rfl⟩
  rw [hq] at c1 ⊢
  have e1 := h.three d lim
  rw [show [insB 13 0 0 0 d noB, insB 16 0 d 0 lim noB, insB 14 0 0 0 d noB] = [insB 13 0 0 0 d noB] ++ ([insB 16 0 d 0 lim noB] ++ [insB 14 0 0 0 d noB]) from rfl, List.countP_append, List.countP_append] at e1
  unfold LS.cnt at c1 ⊢
  simp only [List.map_append, List.map_cons, List.map_nil, List.sum_append, List.sum_cons, List.sum_nil, List.countP_append, List.countP_nil, h0, Nat.add_zero, Nat.zero_add] at c1 ⊢
  omega
theorem low_cntL (h : CntL f P) (E : LEnv) : ∀ (t : Tree), (t.vld 98 = true ∨ t.vld 115 = true) → ∀ (d k : Nat) (c : List Ins) (R : Nat) (V : VM), (t.low E d k c R V).cnt f = c.countP f + (t.loops d).countP P := by
  intro t
  induction t using Tree.ind with
  | h t ih =>
    intro hv d k c R V
    rw [Tree.low_eq, Tree.loops_eq]
    rcases hv with hv | hv
    · obtain ⟨hk, hkid⟩ := vldB hv
      have hdd : deepL t.kind d = d := by unfold deepL; rw [if_neg (by omega)]
      rw [if_pos hk, if_neg (by omega), List.nil_append, hdd]
      have key : ∀ n, n ≤ t.len → (seqL (fun i => kidL E t i d) k c R V n).cnt f = c.countP f + (catTo (fun i => (t.kid i).loops d) n).countP P := by
        intro n
        induction n with
        | zero => intro _; show (LS.mk [] c R V).cnt f = _; unfold LS.cnt catTo; simp
        | succ n ihn =>
          intro hn
          have h1 := ihn (by omega)
          show ((seqL (fun i => kidL E t i d) k c R V n).next k (kidL E t n d)).cnt f = _
          obtain ⟨q, hq⟩ : ∃ q, seqL (fun i => kidL E t i d) k c R V n = q := ⟨_, rfl⟩
          rw [hq] at h1 ⊢
          have h2 := ih n (by omega) (.inr (hkid n (by omega))) d (k + q.done.length) q.code q.regs q.vars
          have h3 : kidL E t n d = (t.kid n).low E d := by unfold kidL; rw [if_pos (show n < t.len by omega)]
          rw [h3]
          unfold LS.cnt at h1 h2
          unfold LS.next LS.cnt
          simp only [List.map_append, List.sum_append]
          show _ = c.countP f + (catTo (fun i => (t.kid i).loops d) n ++ (t.kid n).loops d).countP _
          rw [List.countP_append]
          omega
      exact key t.len (Nat.le_refl _)
    · obtain ⟨⟨hk1, hk2⟩, _, hlen, hkid⟩ := vldS hv
      rw [if_neg (by omega)]
      have hb : ∀ i, i < t.len → (t.kid i).vld 98 = true → ∀ d k c R V, (kidL E t i d k c R V).cnt f = c.countP f + ((t.kid i).loops d).countP P := fun i hi hvi d k c R V => by
        have h3 : kidL E t i d = (t.kid i).low E d := by unfold kidL; rw [if_pos hi]
        rw [h3]
        exact ih i hi (.inl hvi) d k c R V
      have he : ∀ j V R, (kidLE E t j V R).code.countP f = 0 := fun j V R => h.zero (kidLE_calmL E t j V R)
      have heE : ∀ (x : Tree) V R, (x.lowE E V R).code.countP f = 0 := fun x V R => h.zero (lowE_calmL E V x R)
      obtain hk | hk | hk | hk | hk | hk | hk : t.kind = 40 ∨ t.kind = 41 ∨ t.kind = 42 ∨ t.kind = 43 ∨ t.kind = 44 ∨ t.kind = 45 ∨ t.kind = 46 := by omega
      all_goals rw [hk] at hlen hkid
      · have hlen : t.len = 2 := hlen
        have l0 := loopsP (hkid 0 (by omega)) d
        have l1 := loopsE _ (hkid 1 (by omega)) d
        rw [if_neg (by omega), hlen, show deepL t.kind d = d from by unfold deepL; rw [if_neg (by omega)]]
        show _ = _ + ([] ++ (([] ++ (t.kid 0).loops d) ++ (t.kid 1).loops d)).countP _
        rw [l0, l1]
        unfold lowS
        rw [if_pos hk]
        by_cases h2 : (t.kid 0).kind = 2
        · rw [if_pos h2]
          unfold LS.cnt
          simp only [List.map_nil, List.sum_nil, List.countP_append, he, h.one (calmL_ins (show (2 : Int) ≠ 13 ∧ (2 : Int) ≠ 14 ∧ (2 : Int) ≠ 16 by decide))]
          simp
        · rw [if_neg h2]
          unfold LS.cnt
          have e1 : [insB 8 0 (((t.kid 0).kid 0).lowE E V R).r 0 (E.len (t.kid 0).name) noB, stoB E (t.kid 0).name (((t.kid 0).kid 0).lowE E V R).r (kidLE E t 1 V (((t.kid 0).kid 0).lowE E V R).regs).r].countP f = 0 := h.zero (fun i hi => by
            simp only [List.mem_cons, List.not_mem_nil, or_false] at hi
            rcases hi with rfl | rfl
            · exact calmL_ins (by decide)
            · unfold stoB
              by_cases h : E.sh (t.kid 0).name = true
              · rw [if_pos h]; exact calmL_ins (by decide)
              · rw [if_neg h]; exact calmL_ins (by decide))
          simp only [List.map_nil, List.sum_nil, List.countP_append, he, heE, e1]
          simp
      · have hlen : t.len = 3 := hlen
        have l0 := loopsE _ (hkid 0 (by omega)) d
        rw [if_neg (by omega), hlen, show deepL t.kind d = d from by unfold deepL; rw [if_neg (by omega)]]
        show _ = _ + ([] ++ ((([] ++ (t.kid 0).loops d) ++ (t.kid 1).loops d) ++ (t.kid 2).loops d)).countP _
        rw [l0]
        unfold lowS
        rw [if_neg (by omega), if_pos hk]
        unfold ifL
        dsimp only
        have b1 := hb 1 (by omega) (hkid 1 (by omega))
        have b2 := hb 2 (by omega) (hkid 2 (by omega))
        obtain ⟨e, hee⟩ : ∃ e, kidLE E t 0 V R = e := ⟨_, rfl⟩
        have he0 := he 0 V R
        rw [hee] at he0 ⊢
        have c1 := b1 d (k + 1) [] e.regs V
        obtain ⟨s1, hs1⟩ : ∃ s1, kidL E t 1 d (k + 1) [] e.regs V = s1 := ⟨_, rfl⟩
        rw [hs1] at c1 ⊢
        have c2 := b2 d (k + 1 + s1.done.length + 1) [] s1.regs s1.vars
        obtain ⟨s2, hs2⟩ : ∃ s2, kidL E t 2 d (k + 1 + s1.done.length + 1) [] s1.regs s1.vars = s2 := ⟨_, rfl⟩
        rw [hs2] at c2 ⊢
        unfold LS.cnt at c1 c2 ⊢
        simp only [List.map_append, List.map_cons, List.map_nil, List.sum_append, List.sum_cons, List.sum_nil, List.countP_append, List.countP_nil, he0, List.nil_append] at c1 c2 ⊢
        omega
      · have hlen : t.len = 1 := hlen
        rw [if_pos (.inl hk), hlen, show deepL t.kind d = d + 1 from by unfold deepL; rw [if_pos (.inl hk)]]
        show _ = _ + ([(d, t.num)] ++ ([] ++ (t.kid 0).loops (d + 1))).countP _
        rw [List.countP_append, List.nil_append]
        unfold lowS
        rw [if_neg (by omega), if_neg (by omega), if_pos hk]
        exact loop_cntL (lim := t.num) (d := d) (hd := forH t.num d R) (enter := fun V => upd V t.name (some R)) (b := kidL E t 0 (d + 1)) h (h.zero (fun i hi => by
          unfold forH at hi
          simp only [List.mem_cons, List.not_mem_nil, or_false] at hi
          rcases hi with rfl | rfl | rfl
          · exact calmL_ins (by decide)
          · exact calmL_ins (by decide)
          · exact calmL_ins (by decide))) (hb 0 (by omega) (hkid 0 (by omega)) (d + 1))
      · have hlen : t.len = 2 := hlen
        have l0 := loopsE _ (hkid 0 (by omega)) (d + 1)
        rw [if_pos (.inr hk), hlen, show deepL t.kind d = d + 1 from by unfold deepL; rw [if_pos (.inr hk)]]
        show _ = _ + ([(d, t.num)] ++ (([] ++ (t.kid 0).loops (d + 1)) ++ (t.kid 1).loops (d + 1))).countP _
        rw [l0, List.countP_append, List.nil_append, List.nil_append]
        unfold lowS
        rw [if_neg (by omega), if_neg (by omega), if_neg (by omega), if_pos hk]
        exact loop_cntL h (he 0 V R) (hb 1 (by omega) (hkid 1 (by omega)) (d + 1))
      · have hlen : t.len = 1 := hlen
        have l0 := loopsP (hkid 0 (by omega)) d
        rw [if_neg (by omega), hlen, show deepL t.kind d = d from by unfold deepL; rw [if_neg (by omega)]]
        show _ = _ + ([] ++ ([] ++ (t.kid 0).loops d)).countP _
        rw [l0]
        unfold lowS
        rw [if_neg (by omega), if_neg (by omega), if_neg (by omega), if_neg (by omega), if_pos hk]
        by_cases h2 : (t.kid 0).kind = 2
        · rw [if_pos h2]
          unfold LS.cnt
          simp only [List.map_nil, List.sum_nil, List.countP_append, h.one (calmL_ins (show (9 : Int) ≠ 13 ∧ (9 : Int) ≠ 14 ∧ (9 : Int) ≠ 16 by decide))]
          simp
        · rw [if_neg h2]
          unfold LS.cnt
          have e1 : [insB 8 0 (((t.kid 0).kid 0).lowE E V R).r 0 (E.len (t.kid 0).name) noB, insB 9 (((t.kid 0).kid 0).lowE E V R).regs 0 0 t.num noB, stoB E (t.kid 0).name (((t.kid 0).kid 0).lowE E V R).r (((t.kid 0).kid 0).lowE E V R).regs].countP f = 0 := h.zero (fun i hi => by
            simp only [List.mem_cons, List.not_mem_nil, or_false] at hi
            rcases hi with rfl | rfl | rfl
            · exact calmL_ins (by decide)
            · exact calmL_ins (by decide)
            · unfold stoB
              by_cases h : E.sh (t.kid 0).name = true
              · rw [if_pos h]; exact calmL_ins (by decide)
              · rw [if_neg h]; exact calmL_ins (by decide))
          simp only [List.map_nil, List.sum_nil, List.countP_append, heE, e1]
          simp
      · have hlen : t.len = 1 := hlen
        have l0 := loopsE _ (hkid 0 (by omega)) d
        rw [if_neg (by omega), hlen, show deepL t.kind d = d from by unfold deepL; rw [if_neg (by omega)]]
        show _ = _ + ([] ++ ([] ++ (t.kid 0).loops d)).countP _
        rw [l0]
        unfold lowS
        rw [if_neg (by omega), if_neg (by omega), if_neg (by omega), if_neg (by omega), if_neg (by omega), if_pos hk]
        unfold LS.cnt
        simp only [List.map_nil, List.sum_nil, List.countP_append, he, h.one (calmL_ins (show (10 : Int) ≠ 13 ∧ (10 : Int) ≠ 14 ∧ (10 : Int) ≠ 16 by decide))]
        simp
      · have hlen : t.len = 1 := hlen
        rw [if_neg (by omega), hlen, show deepL t.kind d = d from by unfold deepL; rw [if_neg (by omega)]]
        show _ = _ + ([] ++ ([] ++ (t.kid 0).loops d)).countP _
        unfold lowS
        rw [if_neg (by omega), if_neg (by omega), if_neg (by omega), if_neg (by omega), if_neg (by omega), if_neg (by omega), if_pos hk]
        dsimp only
        have c1 := hb 0 (by omega) (hkid 0 (by omega)) d k (c ++ [insB 11 0 0 0 0 t.name]) R V
        obtain ⟨q, hq⟩ : ∃ q, kidL E t 0 d k (c ++ [insB 11 0 0 0 0 t.name]) R V = q := ⟨_, rfl⟩
        rw [hq] at c1 ⊢
        have hp1 := h.one (calmL_ins (d := 0) (x := 0) (y := 0) (imm := 0) (s := t.name) (show (11 : Int) ≠ 13 ∧ (11 : Int) ≠ 14 ∧ (11 : Int) ≠ 16 by decide))
        have hp2 := h.one (calmL_ins (d := 0) (x := 0) (y := 0) (imm := 0) (s := t.name) (show (12 : Int) ≠ 13 ∧ (12 : Int) ≠ 14 ∧ (12 : Int) ≠ 16 by decide))
        unfold LS.cnt at c1 ⊢
        simp only [List.nil_append, List.countP_append] at c1 ⊢
        omega
end
end Go.Proofs.YtkpdngfkdmllkaaDoor

/-
  Contract: Loops (package ontimeref18).
-/
namespace Go.Proofs.YtkpdngfkdmllkaaDoor
set_option linter.unusedVariables false
set_option linter.unusedSimpArgs false
open Go.RowKit Go.Maps
set_option maxRecDepth 100000
set_option maxHeartbeats 8000000

theorem Tryd.infoPairL : (Tryd.prog.info? 49).map (fun i => (i.zero, i.size, i.bytes)) = some (some (.agg #[.int .i64 0, .int .i64 0]), 2, 16) := by kernel_rfl
def pairC (x : Nat × Int) : List Value := [.int .i64 (x.1 : Nat), .int .i64 x.2]
theorem pairC_one {x : Nat × Int} : ∀ u ∈ pairC x, u.oneCell' = true := by
  intro u hu
  simp only [pairC, List.mem_cons, List.not_mem_nil, or_false] at hu
  rcases hu with rfl | rfl <;> rfl
theorem catTo_lenL {α : Type} {f : Nat → List α} {g : Nat → Nat} : ∀ n, (∀ i, i < n → (f i).length ≤ g i) → (catTo f n).length ≤ Tree.sumTo g n := by
  intro n
  induction n with
  | zero => intro _; exact Nat.zero_le _
  | succ n ih =>
    intro h
    have h1 := ih (fun i hi => h i (by omega))
    have h2 := h n (by omega)
    rw [Tree.sumTo_succ]
    show (catTo f n ++ f n).length ≤ _
    rw [List.length_append]
    omega
theorem loops_len : ∀ (t : Tree) (d : Nat), (t.loops d).length ≤ t.size := by
  intro t
  induction t using Tree.ind with
  | h t ih =>
    intro d
    rw [Tree.loops_eq, Tree.size_eq, List.length_append]
    have h1 := catTo_lenL (f := fun i => (t.kid i).loops (deepL t.kind d)) (g := fun i => (t.kid i).size) t.len (fun i hi => ih i hi _)
    by_cases h : t.kind = 42 ∨ t.kind = 43
    · rw [if_pos h, List.length_singleton]; omega
    · rw [if_neg h, List.length_nil]; omega
theorem loops_any : ∀ (t : Tree) (d : Nat) (w : World) (a : Option Addr) (c : Nat), Rep w t a → t.size ≤ 1000000 → d + t.size ≤ 2000000 →
    Calls Tryd.prog 11 #[t.val a c, .int .i64 (d : Nat)] w fun e w' => ∃ va vc, e = .returned (.slice va (t.loops d).length vc) ∧ w'.ownsRow w.heap.size 49 2 (.slice va (t.loops d).length vc) (t.loops d).length ((t.loops d).flatMap pairC) ∧ Below w.heap.size w w' := by
  obtain ⟨ti, hti, hz0, hz1, hz2⟩ := info_parts Tryd.infoPairL
  intro t
  induction t using Tree.ind with
  | h t ih =>
    intro d w a c hv hsz hd
    have IH := Lib.hid ih
    have HSZ := Lib.hid hsz
    have HD := Lib.hid hd
    clear ih
    have hl := hv.fits.len
    have hnum1 := hv.fits.num.1
    have hnum2 := hv.fits.num.2
    have HV := Lib.hid hv
    have HLK := Lib.hid (t.loops_eq d)
    have hd1 : (d : Int) ≤ 2000000 := by omega
    have hd2 : (0 : Int) ≤ (d : Int) := by omega
    obtain ⟨W, hW⟩ : ∃ W : World, w.alloc (.cells #[.int .u8 t.kind, .int .i64 t.num, .string t.name, .slice a t.len c] 35) = W := ⟨_, rfl⟩
    have HBW : Hid (Below w.heap.size w W) := by show Below _ _ _; rw [← hW]; exact mem_alloc _ _
    have HBX : Hid (W.heap[w.heap.size]? = some (.cells #[.int .u8 t.kind, .int .i64 t.num, .string t.name, .slice a t.len c] 35)) := by show _ = _; rw [← hW]; exact mem_new _ _
    have y0 : W.cell? ⟨w.heap.size, 0, none⟩ = some (.int .u8 t.kind) := mem_cell HBX.out 0
    have y1 : W.cell? ⟨w.heap.size, 1, none⟩ = some (.int .i64 t.num) := mem_cell HBX.out 1
    clear hv hsz hd
    go_enter Tryd.func11, Tryd.ntmps11
    obtain ⟨l0, hl0⟩ : ∃ l0 : List (Nat × Int), (if t.kind = 42 ∨ t.kind = 43 then [(d, t.num)] else []) = l0 := ⟨_, rfl⟩
    have HL0 := Lib.hid hl0
    obtain ⟨e, he⟩ : ∃ e, deepL t.kind d = e := ⟨_, rfl⟩
    have HE := Lib.hid he
    have HDE : Hid (e ≤ d + 1) := by show _ ≤ _; rw [← he]; unfold deepL; split <;> omega
    have HL1 : Hid (l0.length ≤ 1) := by show _ ≤ _; rw [← hl0]; split <;> simp
    rw [hl0, he] at HLK
    obtain ⟨b1, hb1⟩ : ∃ b, (t.kind == 42) = b := ⟨_, rfl⟩
    obtain ⟨b2, hb2⟩ : ∃ b, (t.kind == 43) = b := ⟨_, rfl⟩
    have HBB := Lib.hid (And.intro hb1 hb2)
    clear hl0 he hb1 hb2
    go_upto_region 2 with fail
    obtain ⟨bb, hbb⟩ : ∃ b, decide (t.kind = 42 ∨ t.kind = 43) = b := ⟨_, rfl⟩
    have HB := Lib.hid hbb
    clear hbb
    go_cut [14] from 9 to 13 (fun u w' => u = .bool bb ∧ w' = W)
    case first =>
      cases b1 with
      | true =>
        have hk : t.kind = 42 := by simpa using HBB.out.1
        have hk1 : (t.kind == 42) = true := HBB.out.1
        have hb : bb = true := by rw [← HB.out]; simp [hk]
        subst hb
        clear hk
        go_wp2_with fail
        go_meet
        exact ⟨rfl, rfl⟩
      | false =>
        have hk : ¬ t.kind = 42 := by simpa using HBB.out.1
        have hk1 : (t.kind == 42) = false := HBB.out.1
        have hb : bb = b2 := by rw [← HB.out, ← HBB.out.2]; simp [hk]; rfl
        have hk2 : (t.kind == 43) = b2 := HBB.out.2
        clear hk
        go_wp2_with fail
        go_meet
        exact ⟨by rw [hb], rfl⟩
    obtain ⟨rfl, hwc⟩ := hcut
    rw [hwc]
    clear hwc
    go_upto_if 14 with fail
    go_cut [1, 5] from 15 to 23 (fun u v w' => ∃ va vc, u = .int .i64 (e : Nat) ∧ v = .slice va l0.length vc ∧ w'.ownsRow W.heap.size 49 2 (.slice va l0.length vc) l0.length (l0.flatMap pairC) ∧ Below W.heap.size W w')
    case first =>
      cases bb with
      | true =>
        have hk : t.kind = 42 ∨ t.kind = 43 := of_decide_eq_true HB.out
        obtain rfl : l0 = [(d, t.num)] := by rw [← HL0.out, if_pos hk]
        have hee : e = d + 1 := by rw [← HE.out]; unfold deepL; rw [if_pos hk]
        subst hee
        clear hk hW
        go_wp2_with (at_builtin; refine wpList_append_src _ rfl (.tmp 15) (.tmp 20) 42 rfl W.heap.size 49 ti _ 2 16 Tryd.underlying42 hti hz0 hz1 hz2 rfl (by decide) (.slice none 0 0) 0 [] rfl (World.ownsRow_nil _ _ _ _) (some ⟨W.heap.size, 0, none⟩) 1 1 [.int .i64 (d : Nat), .int .i64 t.num] rfl (one_src (cs := [.int .i64 (d : Nat), .int .i64 t.num]) (n := 1) (mem_new _ _) rfl) (by simp [Value.oneCell']) (by unfold maxLen; omega) (by omega) (mem_alloc _ _).size ?_)
        intro v9 w9 hown9 hgrow9 _
        obtain ⟨A9, c9, rfl⟩ := own_val hown9
        have H1 : Hid (w9.ownsRow W.heap.size 49 2 (.slice A9 1 c9) 1 ([(d, t.num)].flatMap pairC)) := hown9
        have H2 : Hid (Below W.heap.size W w9) := (mem_alloc _ _).grown hgrow9 (mem_alloc _ _).size (fun k hk => by cases hk)
        clear hown9 hgrow9
        go_wp2_with fail
        go_meet
        exact ⟨A9, c9, by go_num, rfl, H1.out, H2.out⟩
      | false =>
        have hk : ¬ (t.kind = 42 ∨ t.kind = 43) := of_decide_eq_false HB.out
        obtain rfl : l0 = [] := by rw [← HL0.out, if_neg hk]
        have hee : e = d := by rw [← HE.out]; unfold deepL; rw [if_neg hk]
        subst hee
        clear hk hW
        go_wp2_with fail
        go_meet
        exact ⟨none, 0, rfl, rfl, World.ownsRow_nil _ _ _ _, Below.refl _ _⟩
    obtain ⟨va, vc, rfl, rfl, hown, hBc⟩ := hcut
    obtain ⟨X, hX⟩ : ∃ X : World, X = wc := ⟨_, rfl⟩
    rw [← hX] at hown hBc ⊢
    have HOWN := Lib.hid hown
    have HBC := Lib.hid hBc
    clear hX hown hBc y0 y1 hW
    go_wp2_with fail
    go_loopw [5, 6] (fun v iv wr => ∃ (j : Nat) (va : Option Addr) (vc : Nat), j ≤ t.len ∧ iv = .int .i64 (j : Int) ∧ v = .slice va (l0 ++ catTo (fun i => (t.kid i).loops e) j).length vc ∧ wr.ownsRow W.heap.size 49 2 (.slice va (l0 ++ catTo (fun i => (t.kid i).loops e) j).length vc) (l0 ++ catTo (fun i => (t.kid i).loops e) j).length ((l0 ++ catTo (fun i => (t.kid i).loops e) j).flatMap pairC) ∧ Below W.heap.size W wr) (fun _ iv _ => t.len - (intOf iv).toNat)
    case atStart => exact ⟨0, va, vc, Nat.zero_le _, rfl, by rw [show catTo (fun i => (t.kid i).loops e) 0 = [] from rfl, List.append_nil], by rw [show catTo (fun i => (t.kid i).loops e) 0 = [] from rfl, List.append_nil]; exact HOWN.out, HBC.out⟩
    case round =>
      clear HOWN HBC
      obtain ⟨j, va, vc, hj, rfl, rfl, hown, hB⟩ := hrel
      have HB := Lib.hid hB
      have hj0 : (0 : Int) ≤ (j : Int) := by omega
      have hx := mem_keep HBX.out hB
      have y3 : wr.cell? ⟨w.heap.size, 3, none⟩ = some (.slice a t.len c) := mem_cell hx 3
      obtain ⟨L, hL⟩ : ∃ L, (l0 ++ catTo (fun i => (t.kid i).loops e) j) = L := ⟨_, rfl⟩
      have HL := Lib.hid hL
      rw [hL] at hown ⊢
      obtain ⟨n, hn⟩ : ∃ n, L.length = n := ⟨_, rfl⟩
      have HN := Lib.hid hn
      rw [hn] at hown ⊢
      have HOWN := Lib.hid hown
      clear hB hx hL hn hown
      by_cases hlt : j < t.len
      · have HLT : Hid (j < t.len) := hlt
        have hlt2 : (j : Int) < (t.len : Int) := by omega
        rcases HV.out.kids with h0 | ⟨b, off, rfl, hc⟩
        · omega
        obtain ⟨ai, ci, hnc, hr⟩ := hc j hlt
        have HBB2 := Lib.hid (mem_then HBW.out HB.out)
        obtain ⟨f0, f1, f2, f3⟩ := hnc.below HBB2.out hnc.lt
        have HSK : Hid (((t.kid j).size ≤ 1000000 ∧ e + (t.kid j).size ≤ 2000000) ∧ n + ((t.kid j).loops e).length ≤ 1000000) := by
          have h1 := catTo_lenL (f := fun i => (t.kid i).loops e) (g := fun i => (t.kid i).size) j (fun i _ => loops_len (t.kid i) e)
          have h2 := HL1.out
          have h3 := Tree.sumTo_le (f := fun i => (t.kid i).size) (show j + 1 ≤ t.len from hlt)
          rw [Tree.sumTo_succ] at h3
          have h4 := t.size_eq
          have h5 := HSZ.out
          have h6 := loops_len (t.kid j) e
          have h7 : n = l0.length + (catTo (fun i => (t.kid i).loops e) j).length := by rw [← HN.out, ← HL.out, List.length_append]
          have h8 := HD.out
          have h9 := HDE.out
          show _ ∧ _
          omega
        have HI := Lib.hid (IH.out j hlt e)
        have HR := Lib.hid (hr.below HBB2.out)
        clear hc hnc hr hlt
        go_wp2_with fail
        refine (HI.out _ ai ci HR.out HSK.out.1.1 HSK.out.1.2).mono ?_
        rintro e' w1 ⟨ka, kc, rfl, hko, hB1⟩
        have HKO := Lib.hid hko
        have HBK := Lib.hid hB1
        have HB1 := Lib.hid (mem_then HB.out hB1)
        obtain ⟨M, hM⟩ : ∃ M, (t.kid j).loops e = M := ⟨_, rfl⟩
        have HM := Lib.hid hM
        rw [hM] at HKO HSK ⊢
        obtain ⟨m, hm⟩ : ∃ m, M.length = m := ⟨_, rfl⟩
        have HMM := Lib.hid hm
        rw [hm] at HKO HSK ⊢
        clear hko hB1 hM hm f0 f1 f2 f3 y3 HI
        go_wp2_with (at_builtin; refine wpList_append_src _ rfl (.tmp 31) (.tmp 38) 42 rfl W.heap.size 49 ti _ 2 16 Tryd.underlying42 hti hz0 hz1 hz2 rfl (by decide) (.slice va n vc) n (L.flatMap pairC) rfl (own_below HOWN.out HBK.out) ka m kc (M.flatMap pairC) rfl (own_src HKO.out) (fun u hu => by obtain ⟨s, _, hs⟩ := List.mem_flatMap.1 hu; exact pairC_one u hs) (by have := HSK.out.2; unfold maxLen; omega) (by have := HSK.out.2; omega) HB1.out.size ?_)
        intro v9 w9 hown9 hgrow9 _
        obtain ⟨A9, c9, rfl⟩ := own_val hown9
        have HLX : Hid (l0 ++ catTo (fun i => (t.kid i).loops e) (j + 1) = L ++ M) := by
          show l0 ++ (catTo (fun i => (t.kid i).loops e) j ++ (t.kid j).loops e) = _
          rw [← List.append_assoc, HL.out, HM.out]
        have HLY : Hid ((L ++ M).length = n + m) := by show _ = _; rw [List.length_append, HN.out, HMM.out]
        have HO : Hid (w9.ownsRow W.heap.size 49 2 (.slice A9 (n + m) c9) (n + m) ((L ++ M).flatMap pairC)) := by show World.ownsRow _ _ _ _ _ _ _; rw [List.flatMap_append]; exact hown9
        have HB9 : Hid (Below W.heap.size W w9) := HB1.out.grown hgrow9 HB1.out.size (fun k hk => (own_lt HOWN.out hk).1)
        clear hown9 hgrow9
        go_wp2_with fail
        go_roundw
        case rel => exact ⟨j + 1, A9, c9, by have := HLT.out; omega, by go_num, by rw [HLX.out, HLY.out], by rw [HLX.out, HLY.out]; exact HO.out, HB9.out⟩
        case measure => have := HLT.out; simp [intOf]; omega
      · obtain rfl : j = t.len := by omega
        have HEE : Hid (t.loops d = L) := by show _ = _; rw [HLK.out]; exact HL.out
        go_wp2_with fail
        go_ret
        refine ⟨va, vc, ?_, ?_, mem_then HBW.out HB.out⟩
        · rw [HEE.out, HN.out]; rfl
        · rw [HEE.out, HN.out]; exact own_down HOWN.out HBW.out.size
end Go.Proofs.YtkpdngfkdmllkaaDoor

/-
  Contract: Count (package ontimeref18).
-/
namespace Go.Proofs.YtkpdngfkdmllkaaDoor
set_option linter.unusedVariables false
set_option linter.unusedSimpArgs false
open Go.RowKit Go.Maps
set_option maxRecDepth 100000
set_option maxHeartbeats 4000000

theorem Tryd.infoIntL : (Tryd.prog.info? 3).map (fun i => (i.zero, i.size, i.bytes)) = some (some (.int .i64 0), 1, 8) := by kernel_rfl
theorem pair_eql (W : World) (a b c d : Int) : (binOp .eql 49 (.agg #[.int .i64 a, .int .i64 b]) (.agg #[.int .i64 c, .int .i64 d])).run Tryd.prog W = .ok (.bool (a == c && b == d)) W := by
  obtain ⟨ti, hti, _, _, _⟩ := info_parts Tryd.infoIntL
  have u3 := Tryd.underlying3
  have a3 := Tryd.isAgg3
  have z3 := Tryd.sizeOf3
  have hc : Tryd.prog.cellsOf 3 = 1 := by kernel_rfl
  rw [run_eql_struct, show (10000 : Nat) = 9999 + 1 from rfl, run_equalIn_array W 9999 _ _ Tryd.underlying49 hti, hc, show List.range 2 = [0, 1] from rfl, show (9999 : Nat) = 9998 + 1 from rfl]
  by_cases h : a = c
  · have h1 : (a == c) = true := by simpa using h
    simp [Op.eqItems, Sem.run_bind, go_sem, a3, u3, h1]
    by_cases h2 : b = d <;> simp [h2]
  · have h1 : (a == c) = false := by simpa using h
    simp [Op.eqItems, Sem.run_bind, go_sem, a3, u3, h1]
/-- a row of pairs -/
def PairsAt (w : World) (a : Option Addr) (l : List (Nat × Int)) : Prop := l.length ≤ 1000000 ∧ ∀ k x, l[k]? = some x → ∃ b off, a = some ⟨b, off, none⟩ ∧ w.cell? ⟨b, off + k * 2, none⟩ = some (.int .i64 (x.1 : Nat)) ∧ w.cell? ⟨b, off + k * 2 + 1, none⟩ = some (.int .i64 x.2)
theorem pair_same (x : Nat × Int) (a : Nat) (b : Int) : (((x.1 : Nat) : Int) == ((a : Nat) : Int) && x.2 == b) = decide (x = (a, b)) := by
  rw [Bool.eq_iff_iff]
  simp only [Bool.and_eq_true, beq_iff_eq, decide_eq_true_eq, Prod.ext_iff, Int.natCast_inj]
theorem count_any (l : List (Nat × Int)) (a : Nat) (b : Int) (w : World) (la : Option Addr) (lc : Nat) (h : PairsAt w la l) :
    Calls Tryd.prog 13 #[.slice la l.length lc, .agg #[.int .i64 (a : Nat), .int .i64 b]] w fun e w' => e = .returned (.int .i64 (l.countP (fun x => decide (x = (a, b))) : Nat)) ∧ Below w.heap.size w w' := by
  have hl := h.1
  have H := Lib.hid h
  clear h
  obtain ⟨W, hW⟩ : ∃ W : World, w.alloc (.cells #[.int .i64 (a : Nat), .int .i64 b] 49) = W := ⟨_, rfl⟩
  have HBW : Hid (Below w.heap.size w W) := by show Below _ _ _; rw [← hW]; exact mem_alloc _ _
  have HBX : Hid (W.heap[w.heap.size]? = some (.cells #[.int .i64 (a : Nat), .int .i64 b] 49)) := by show _ = _; rw [← hW]; exact mem_new _ _
  go_enter Tryd.func13, Tryd.ntmps13
  go_wp2_with fail
  clear hW
  go_loopw [5, 6] (fun v iv wr => ∃ j : Nat, j ≤ l.length ∧ iv = .int .i64 (j : Int) ∧ v = .int .i64 ((l.take j).countP (fun x => decide (x = (a, b))) : Nat) ∧ Below W.heap.size W wr) (fun _ iv _ => l.length - (intOf iv).toNat)
  case atStart => exact ⟨0, Nat.zero_le _, rfl, rfl, Below.refl _ _⟩
  case round =>
    obtain ⟨j, hj, rfl, rfl, hB⟩ := hrel
    have HB := Lib.hid hB
    have hj0 : (0 : Int) ≤ (j : Int) := by omega
    have b0 : wr.cell? ⟨w.heap.size, 0, none⟩ = some (.int .i64 (a : Nat)) := mem_cell (mem_keep HBX.out hB) 0
    have b1 : wr.cell? ⟨w.heap.size, 1, none⟩ = some (.int .i64 b) := mem_cell (mem_keep HBX.out hB) 1
    have hcl : (l.take j).countP (fun x => decide (x = (a, b))) ≤ j := Nat.le_trans List.countP_le_length (by rw [List.length_take]; omega)
    clear hB
    by_cases hlt : j < l.length
    · have HLT : Hid (j < l.length) := hlt
      have hlt2 : (j : Int) < (l.length : Int) := by omega
      obtain ⟨x, hx⟩ : ∃ x, l[j]? = some x := ⟨_, List.getElem?_eq_getElem hlt⟩
      obtain ⟨xb, xo, rfl, e0, e1⟩ := H.out.2 j x hx
      have HBB := Lib.hid (mem_then HBW.out HB.out)
      have c0 := cell_below HBB.out e0
      have c1 := cell_below HBB.out e1
      have hcmp := pair_eql
      have HN : Hid ((l.take (j + 1)).countP (fun x => decide (x = (a, b))) = (l.take j).countP (fun x => decide (x = (a, b))) + if x = (a, b) then 1 else 0) := by
        show _ = _
        rw [List.take_add_one, hx, List.countP_append]
        by_cases h : x = (a, b) <;> simp [h, List.countP_cons]
      obtain ⟨k0, hk0⟩ : ∃ k, (l.take j).countP (fun x => decide (x = (a, b))) = k := ⟨_, rfl⟩
      rw [hk0] at HN hcl ⊢
      have HPS := Lib.hid (pair_same x a b)
      obtain ⟨x1, x2⟩ := x
      obtain ⟨q, hq⟩ : ∃ q, (((x1 : Nat) : Int) == ((a : Nat) : Int) && x2 == b) = q := ⟨_, rfl⟩
      have HQ : Hid (q = decide ((x1, x2) = (a, b))) := by show _ = _; rw [← hq]; exact HPS.out
      have hcmp2 : ∀ W : World, (binOp .eql 49 (.agg #[.int .i64 (x1 : Nat), .int .i64 x2]) (.agg #[.int .i64 (a : Nat), .int .i64 b])).run Tryd.prog W = .ok (.bool q) W := fun W => by rw [← hq]; exact pair_eql W _ _ _ _
      have c0 : wr.cell? ⟨xb, xo + j * 2, none⟩ = some (.int .i64 (x1 : Nat)) := c0
      have c1 : wr.cell? ⟨xb, xo + j * 2 + 1, none⟩ = some (.int .i64 x2) := c1
      clear hx e0 e1 hk0 hcmp hq
      cases q with
      | true =>
        have hy : (x1, x2) = (a, b) := of_decide_eq_true HQ.out.symm
        have HY := Lib.hid hy
        clear hy
        go_wp2_with fail
        go_region
        go_wp2_with fail
        go_roundw
        case rel => exact ⟨j + 1, by have := HLT.out; omega, by go_num, by rw [HN.out, if_pos HY.out]; go_num, HB.out.drew⟩
        case measure => have := HLT.out; simp [intOf]; omega
      | false =>
        have hy : ¬ (x1, x2) = (a, b) := of_decide_eq_false HQ.out.symm
        have HY := Lib.hid hy
        clear hy
        go_wp2_with fail
        go_region
        go_wp2_with fail
        go_roundw
        case rel => exact ⟨j + 1, by have := HLT.out; omega, by go_num, by rw [HN.out, if_neg HY.out]; rfl, HB.out.drew⟩
        case measure => have := HLT.out; simp [intOf]; omega
    · obtain rfl : j = l.length := by omega
      go_wp2_with fail
      go_ret
      exact ⟨by rw [List.take_length]; rfl, mem_then HBW.out HB.out⟩
end Go.Proofs.YtkpdngfkdmllkaaDoor

/-
  Plain: where the blocks of a translation jump to. No walk here.
-/
namespace Go.Proofs.YtkpdngfkdmllkaaDoor
set_option linter.unusedVariables false
set_option linter.unusedSimpArgs false
open Go.RowKit
set_option maxRecDepth 100000

/-- complete blocks from number k on jump or branch, to places up to the block behind them -/
def TgtB (n : Nat) (x : Blk) : Prop := (x.kind = 1 ∨ x.kind = 2) ∧ (0 ≤ x.to ∧ x.to ≤ (n : Nat)) ∧ (0 ≤ x.els ∧ x.els ≤ (n : Nat))
def TgtL (k : Nat) (s : LS) : Prop := ∀ x ∈ s.done, TgtB (k + s.done.length) x
theorem TgtB.mono {n m : Nat} {x : Blk} (h : TgtB n x) (hn : n ≤ m) : TgtB m x := ⟨h.1, ⟨h.2.1.1, by have := h.2.1.2; omega⟩, ⟨h.2.2.1, by have := h.2.2.2; omega⟩⟩
theorem TgtB.jmp {n a : Nat} {c : List Ins} (h : a ≤ n) : TgtB n (jmpB c a) := ⟨.inl rfl, ⟨by show (0 : Int) ≤ (a : Nat); omega, by show ((a : Nat) : Int) ≤ (n : Nat); omega⟩, ⟨by show (0 : Int) ≤ 0; omega, by show (0 : Int) ≤ (n : Nat); omega⟩⟩
theorem low_tgt (E : LEnv) : ∀ (t : Tree), (t.vld 98 = true ∨ t.vld 115 = true) → ∀ (d k : Nat) (c : List Ins) (R : Nat) (V : VM), TgtL k (t.low E d k c R V) := by
  intro t
  induction t using Tree.ind with
  | h t ih =>
    intro hv d k c R V
    rw [Tree.low_eq]
    rcases hv with hv | hv
    · obtain ⟨hk, hkid⟩ := vldB hv
      rw [if_pos hk]
      have key : ∀ n, n ≤ t.len → TgtL k (seqL (fun i => kidL E t i d) k c R V n) := by
        intro n
        induction n with
        | zero => intro _ x hx; cases hx
        | succ n ihn =>
          intro hn
          have h1 := ihn (by omega)
          show TgtL k ((seqL (fun i => kidL E t i d) k c R V n).next k (kidL E t n d))
          obtain ⟨q, hq⟩ : ∃ q, seqL (fun i => kidL E t i d) k c R V n = q := ⟨_, rfl⟩
          rw [hq] at h1 ⊢
          have h2 := ih n (by omega) (.inr (hkid n (by omega))) d (k + q.done.length) q.code q.regs q.vars
          have h3 : kidL E t n d = (t.kid n).low E d := by unfold kidL; rw [if_pos (show n < t.len by omega)]
          rw [h3]
          intro x hx
          have hx : x ∈ q.done ++ ((t.kid n).low E d (k + q.done.length) q.code q.regs q.vars).done := hx
          show TgtB (k + (q.done ++ ((t.kid n).low E d (k + q.done.length) q.code q.regs q.vars).done).length) x
          rw [List.length_append]
          rcases List.mem_append.1 hx with hx | hx
          · exact (h1 x hx).mono (by omega)
          · exact (h2 x hx).mono (by omega)
      exact key t.len (Nat.le_refl _)
    · obtain ⟨⟨hk1, hk2⟩, _, hlen, hkid⟩ := vldS hv
      rw [if_neg (by omega)]
      have hb : ∀ i, i < t.len → (t.kid i).vld 98 = true → ∀ d k c R V, TgtL k (kidL E t i d k c R V) := fun i hi hvi d k c R V => by
        have h3 : kidL E t i d = (t.kid i).low E d := by unfold kidL; rw [if_pos hi]
        rw [h3]
        exact ih i hi (.inl hvi) d k c R V
      have hloop : ∀ (lim : Int) (h : LE) (enter : VM → VM) (b : LF), (∀ k c R V, TgtL k (b k c R V)) → TgtL k (loopL lim d h enter b k c V) := by
        intro lim h enter b hbb x hx
        unfold loopL at hx ⊢
        dsimp only at hx ⊢
        have h2 := hbb (k + 2) [insB 16 0 d 0 lim noB] h.regs (enter V)
        obtain ⟨q, hq⟩ : ∃ q, b (k + 2) [insB 16 0 d 0 lim noB] h.regs (enter V) = q := ⟨_, rfl⟩
        rw [hq] at hx h2 ⊢
        simp only [List.mem_append, List.mem_cons, List.not_mem_nil, or_false] at hx
        simp only [List.length_append, List.length_cons, List.length_nil]
        rcases hx with ((rfl | rfl) | hx) | rfl
        · exact TgtB.jmp (a := k + 1) (by omega)
        · exact ⟨.inr rfl, ⟨by show (0 : Int) ≤ ((k + 2 : Nat) : Int); omega, by show ((k + 2 : Nat) : Int) ≤ _; omega⟩, ⟨by show (0 : Int) ≤ ((k + 2 + q.done.length + 1 : Nat) : Int); omega, by show ((k + 2 + q.done.length + 1 : Nat) : Int) ≤ _; omega⟩⟩
        · exact (h2 x hx).mono (by omega)
        · exact TgtB.jmp (a := k + 1) (by omega)
      obtain hk | hk | hk | hk | hk | hk | hk : t.kind = 40 ∨ t.kind = 41 ∨ t.kind = 42 ∨ t.kind = 43 ∨ t.kind = 44 ∨ t.kind = 45 ∨ t.kind = 46 := by omega
      all_goals rw [hk] at hlen hkid
      · unfold lowS
        rw [if_pos hk]
        intro x hx
        split at hx <;> cases hx
      · have hlen : t.len = 3 := hlen
        unfold lowS
        rw [if_neg (by omega), if_pos hk]
        intro x hx
        unfold ifL at hx ⊢
        dsimp only at hx ⊢
        obtain ⟨e, hee⟩ : ∃ e, kidLE E t 0 V R = e := ⟨_, rfl⟩
        rw [hee] at hx ⊢
        have h1 := hb 1 (by omega) (hkid 1 (by omega)) d (k + 1) [] e.regs V
        obtain ⟨s1, hs1⟩ : ∃ s1, kidL E t 1 d (k + 1) [] e.regs V = s1 := ⟨_, rfl⟩
        rw [hs1] at hx h1 ⊢
        have h2 := hb 2 (by omega) (hkid 2 (by omega)) d (k + 1 + s1.done.length + 1) [] s1.regs s1.vars
        obtain ⟨s2, hs2⟩ : ∃ s2, kidL E t 2 d (k + 1 + s1.done.length + 1) [] s1.regs s1.vars = s2 := ⟨_, rfl⟩
        rw [hs2] at hx h2 ⊢
        simp only [List.mem_append, List.mem_cons, List.not_mem_nil, or_false] at hx
        simp only [List.length_append, List.length_cons, List.length_nil]
        rcases hx with ((rfl | hx) | (rfl | hx)) | rfl
        · exact ⟨.inr rfl, ⟨by show (0 : Int) ≤ ((k + 1 : Nat) : Int); omega, by show ((k + 1 : Nat) : Int) ≤ _; omega⟩, ⟨by show (0 : Int) ≤ ((k + 1 + s1.done.length + 1 : Nat) : Int); omega, by show ((k + 1 + s1.done.length + 1 : Nat) : Int) ≤ _; omega⟩⟩
        · exact (h1 x hx).mono (by omega)
        · exact TgtB.jmp (by omega)
        · exact (h2 x hx).mono (by omega)
        · exact TgtB.jmp (by omega)
      · have hlen : t.len = 1 := hlen
        unfold lowS
        rw [if_neg (by omega), if_neg (by omega), if_pos hk]
        exact hloop t.num (forH t.num d R) (fun V => upd V t.name (some R)) (kidL E t 0 (d + 1)) (hb 0 (by omega) (hkid 0 (by omega)) (d + 1))
      · have hlen : t.len = 2 := hlen
        unfold lowS
        rw [if_neg (by omega), if_neg (by omega), if_neg (by omega), if_pos hk]
        exact hloop _ _ _ _ (hb 1 (by omega) (hkid 1 (by omega)) (d + 1))
      · unfold lowS
        rw [if_neg (by omega), if_neg (by omega), if_neg (by omega), if_neg (by omega), if_pos hk]
        intro x hx
        split at hx <;> cases hx
      · unfold lowS
        rw [if_neg (by omega), if_neg (by omega), if_neg (by omega), if_neg (by omega), if_neg (by omega), if_pos hk]
        intro x hx
        cases hx
      · have hlen : t.len = 1 := hlen
        unfold lowS
        rw [if_neg (by omega), if_neg (by omega), if_neg (by omega), if_neg (by omega), if_neg (by omega), if_neg (by omega), if_pos hk]
        exact hb 0 (by omega) (hkid 0 (by omega)) d k (c ++ [insB 11 0 0 0 0 t.name]) R V
/-- every block of a function but the last jumps or branches within the function -/
theorem lowFn_tgt (shared : List Arr) (t : Tsk) (hv : t.body.vld 98 = true) : ∀ x ∈ (lowFn shared t).blocks, (x.kind = 3 ∧ x.to = 0 ∧ x.els = 0) ∨ ((x.kind = 1 ∨ x.kind = 2) ∧ (0 ≤ x.to ∧ x.to < ((lowFn shared t).blocks.length : Nat)) ∧ (0 ≤ x.els ∧ x.els < ((lowFn shared t).blocks.length : Nat))) := by
  intro x hx
  have h1 := low_tgt (envOf shared t.arrays) t.body (.inl hv) 0 0 [] t.vars.length (varsM t.vars t.vars.length)
  have hl : (lowFn shared t).blocks.length = (lowS0 shared t).done.length + 1 := by
    show ((lowS0 shared t).done ++ _).length = _
    rw [List.length_append]
    rfl
  rw [hl]
  have hx : x ∈ (lowS0 shared t).done ++ [⟨(lowS0 shared t).code, 3, 0, 0, 0⟩] := hx
  rcases List.mem_append.1 hx with hx | hx
  · obtain ⟨a, ⟨b, c⟩, d, e⟩ := h1 x hx
    have c : x.to ≤ ((0 + (lowS0 shared t).done.length : Nat) : Int) := c
    have e : x.els ≤ ((0 + (lowS0 shared t).done.length : Nat) : Int) := e
    exact .inr ⟨a, ⟨b, by omega⟩, ⟨d, by omega⟩⟩
  · obtain rfl := List.mem_singleton.1 hx
    exact .inl ⟨rfl, rfl, rfl⟩
end Go.Proofs.YtkpdngfkdmllkaaDoor

/-
  Plain law of LowerLoops, second part: where the instructions of loops stand. No walk here.
-/
namespace Go.Proofs.YtkpdngfkdmllkaaDoor
set_option linter.unusedVariables false
set_option linter.unusedSimpArgs false
open Go.RowKit
set_option maxRecDepth 100000

def CalmM (i : Ins) : Prop := i.op ≠ 14 ∧ i.op ≠ 16
/-- some block ends in an increment of the counter and jumps to a header that branches to block b -/
def ClosedAt (B : List Blk) (b : Nat) (n : Int) : Prop := ∃ y ∈ B, y.kind = 1 ∧ (∃ z, y.code.getLast? = some z ∧ z.op = 14 ∧ z.imm = n) ∧ ∃ h, B[y.to.toNat]? = some h ∧ h.kind = 2 ∧ (h.to = (b : Nat) ∨ h.els = (b : Nat))
/-- an instruction stands where it may -/
def InsFine (B : List Blk) (b : Nat) (x : Blk) (i : Nat) (z : Ins) : Prop := (z.op = 16 → i = 0 ∧ ClosedAt B b z.x) ∧ (z.op = 14 → i + 1 = x.code.length ∧ x.kind = 1 ∧ ∃ h, B[x.to.toNat]? = some h ∧ h.kind = 2)
theorem InsFine.calm {B : List Blk} {b : Nat} {x : Blk} {i : Nat} {z : Ins} (h : CalmM z) : InsFine B b x i z := ⟨fun e => absurd e h.2, fun e => absurd e h.1⟩
structure PosL (B : List Blk) (k : Nat) (c : List Ins) (s : LS) : Prop where
  none : s.done = [] → ∃ c', s.code = c ++ c' ∧ ∀ i ∈ c', CalmM i
  some : s.done ≠ [] → (∀ i ∈ s.code, CalmM i) ∧ ∃ x0 c1, s.done[0]? = .some x0 ∧ x0.code = c ++ c1
  fine : ∀ j x, s.done[j]? = .some x → ∀ i z, x.code[i]? = .some z → (j = 0 → c.length ≤ i) → InsFine B (k + j) x i z
/-- the blocks stand in B -/
def InB18 (B : List Blk) (k : Nat) (s : LS) : Prop := ∀ i x, s.done[i]? = .some x → B[k + i]? = .some x
theorem PosL.next {B : List Blk} {k : Nat} {c : List Ins} {q : LS} {f : LF} (h1 : PosL B k c q) (h2 : PosL B (k + q.done.length) q.code (f (k + q.done.length) q.code q.regs q.vars)) : PosL B k c (q.next k f) := by
  obtain ⟨s, hs⟩ : ∃ s, f (k + q.done.length) q.code q.regs q.vars = s := ⟨_, rfl⟩
  unfold LS.next
  rw [hs] at h2 ⊢
  dsimp only
  refine ⟨fun h => ?_, fun h => ?_, fun j x hj i z hz hi => ?_⟩
  · obtain ⟨e1, e2⟩ := List.append_eq_nil_iff.1 h
    obtain ⟨c1, a1, a2⟩ := h1.none e1
    obtain ⟨c2, b1, b2⟩ := h2.none e2
    refine ⟨c1 ++ c2, by show s.code = _; rw [b1, a1, List.append_assoc], fun i hi => ?_⟩
    rcases List.mem_append.1 hi with hi | hi
    · exact a2 i hi
    · exact b2 i hi
  · show (∀ i ∈ s.code, CalmM i) ∧ ∃ x0 c1, (q.done ++ s.done)[0]? = .some x0 ∧ x0.code = c ++ c1
    by_cases hq : q.done = []
    · have hsn : s.done ≠ [] := fun e => h (by show q.done ++ s.done = []; rw [hq, e]; rfl)
      obtain ⟨c1, a1, a2⟩ := h1.none hq
      obtain ⟨b1, x0, c2, b2, b3⟩ := h2.some hsn
      refine ⟨b1, x0, c1 ++ c2, by rw [hq, List.nil_append]; exact b2, by rw [b3, a1, List.append_assoc]⟩
    · obtain ⟨a1, x0, c1, a2, a3⟩ := h1.some hq
      refine ⟨?_, x0, c1, ?_, a3⟩
      · by_cases hsn : s.done = []
        · obtain ⟨c2, b1, b2⟩ := h2.none hsn
          intro i hi
          rw [b1] at hi
          rcases List.mem_append.1 hi with hi | hi
          · exact a1 i hi
          · exact b2 i hi
        · exact (h2.some hsn).1
      · rw [List.getElem?_append_left (List.length_pos_iff.2 hq)]
        exact a2
  · have hj : (q.done ++ s.done)[j]? = .some x := hj
    by_cases hjl : j < q.done.length
    · rw [List.getElem?_append_left hjl] at hj
      exact h1.fine j x hj i z hz hi
    · rw [List.getElem?_append_right (by omega)] at hj
      have e : k + j = k + q.done.length + (j - q.done.length) := by omega
      rw [e]
      by_cases hc : j - q.done.length = 0 → q.code.length ≤ i
      · exact h2.fine _ x hj i z hz hc
      · -- an instruction of the code that was there
        have hj0 : j - q.done.length = 0 := by
          by_cases h0 : j - q.done.length = 0
          · exact h0
          · exact absurd (fun h => absurd h h0) hc
        have hil : i < q.code.length := by
          by_cases h0 : i < q.code.length
          · exact h0
          · exact absurd (fun _ => by omega) hc
        rw [hj0] at hj
        have hsn : s.done ≠ [] := by rintro e; rw [e] at hj; cases hj
        obtain ⟨_, x0, c2, b2, b3⟩ := h2.some hsn
        rw [hj] at b2
        cases b2
        rw [b3, List.getElem?_append_left hil] at hz
        refine InsFine.calm ?_
        by_cases hq : q.done = []
        · obtain ⟨c1, a1, a2⟩ := h1.none hq
          have h0 : j = 0 := by rw [hq] at hj0; exact hj0
          have := hi h0
          rw [a1, List.getElem?_append_right this] at hz
          exact a2 z (List.mem_of_getElem? hz)
        · exact (h1.some hq).1 z (List.mem_of_getElem? hz)
theorem PosL.leaf {B : List Blk} {k : Nat} {c c' : List Ins} {s : LS} (hd : s.done = []) (hc : s.code = c ++ c') (h : ∀ i ∈ c', CalmM i) : PosL B k c s :=
  ⟨fun _ => ⟨c', hc, h⟩, fun hn => absurd hd hn, fun j x hj => by rw [hd] at hj; cases hj⟩
theorem CalmL.m {i : Ins} (h : CalmL i) : CalmM i := ⟨h.2.1, h.2.2⟩
/-- what a block's own code is, seen from its end -/
theorem PosL.code {B : List Blk} {k : Nat} {s : LS} (h : PosL B k [] s) : ∀ i ∈ s.code, CalmM i := by
  by_cases hd : s.done = []
  · obtain ⟨c', h1, h2⟩ := h.none hd
    intro i hi
    rw [h1] at hi
    exact h2 i hi
  · exact (h.some hd).1
theorem PosL.lock {B : List Blk} {k : Nat} {c : List Ins} {a b : Ins} {s : LS} (h : PosL B k (c ++ [a]) s) (ha : CalmM a) (hb : CalmM b) : PosL B k c { s with code := s.code ++ [b] } := by
  refine ⟨fun hd => ?_, fun hd => ?_, fun j x hj i z hz hi => ?_⟩
  · obtain ⟨c', h1, h2⟩ := h.none hd
    refine ⟨[a] ++ c' ++ [b], by show s.code ++ [b] = _; rw [h1]; simp, fun i hi => ?_⟩
    simp only [List.mem_append, List.mem_singleton] at hi
    rcases hi with (rfl | hi) | rfl
    · exact ha
    · exact h2 i hi
    · exact hb
  · obtain ⟨h1, x0, c1, h2, h3⟩ := h.some hd
    refine ⟨fun i hi => ?_, x0, [a] ++ c1, h2, by rw [h3, List.append_assoc]⟩
    rcases List.mem_append.1 hi with hi | hi
    · exact h1 i hi
    · rw [List.mem_singleton.1 hi]; exact hb
  · have hj : s.done[j]? = .some x := hj
    by_cases hc : j = 0 → (c ++ [a]).length ≤ i
    · exact h.fine j x hj i z hz hc
    · have hj0 : j = 0 := by
        by_cases h0 : j = 0
        · exact h0
        · exact absurd (fun h => absurd h h0) hc
      have hil : i < (c ++ [a]).length := by
        by_cases h0 : i < (c ++ [a]).length
        · exact h0
        · exact absurd (fun _ => by omega) hc
      subst hj0
      have hd : s.done ≠ [] := by rintro e; rw [e] at hj; cases hj
      obtain ⟨_, x0, c1, h2, h3⟩ := h.some hd
      rw [hj] at h2
      cases h2
      rw [h3, List.getElem?_append_left hil] at hz
      rw [List.getElem?_append_right (hi rfl)] at hz
      exact InsFine.calm (by rw [List.mem_singleton.1 (List.mem_of_getElem? hz)]; exact ha)
theorem calm_at {l : List Ins} {B : List Blk} {b : Nat} {x : Blk} {c : List Ins} (hx : x.code = c ++ l) (hl : ∀ i ∈ l, CalmM i) {i : Nat} {z : Ins} (hz : x.code[i]? = some z) (hi : c.length ≤ i) : InsFine B b x i z := by
  rw [hx, List.getElem?_append_right hi] at hz
  exact InsFine.calm (hl z (List.mem_of_getElem? hz))
theorem if_pos_ (B : List Blk) {e : LE} {b1 b2 : LF} {k : Nat} {c : List Ins} {V : VM} (he : ∀ i ∈ e.code, CalmM i) (h1 : PosL B (k + 1) [] (b1 (k + 1) [] e.regs V)) (h2 : PosL B (k + 1 + (b1 (k + 1) [] e.regs V).done.length + 1) [] (b2 (k + 1 + (b1 (k + 1) [] e.regs V).done.length + 1) [] (b1 (k + 1) [] e.regs V).regs (b1 (k + 1) [] e.regs V).vars)) : PosL B k c (ifL e b1 b2 k c V) := by
  unfold ifL
  dsimp only
  obtain ⟨s1, hs1⟩ : ∃ s1, b1 (k + 1) [] e.regs V = s1 := ⟨_, rfl⟩
  rw [hs1] at h1 h2 ⊢
  obtain ⟨s2, hs2⟩ : ∃ s2, b2 (k + 1 + s1.done.length + 1) [] s1.regs s1.vars = s2 := ⟨_, rfl⟩
  rw [hs2] at h2 ⊢
  refine ⟨fun hd => absurd hd (by simp), fun _ => ⟨(fun i hi => by cases hi), _, e.code, rfl, rfl⟩, fun j x hj i z hz hi => ?_⟩
  have hj : ((⟨c ++ e.code, 2, e.r, ((k + 1 : Nat) : Int), ((k + 1 + s1.done.length + 1 : Nat) : Int)⟩ :: s1.done) ++ (jmpB s1.code (k + 1 + s1.done.length + 1 + s2.done.length + 1) :: s2.done) ++ [jmpB s2.code (k + 1 + s1.done.length + 1 + s2.done.length + 1)])[j]? = .some x := hj
  rcases Nat.eq_zero_or_pos j with h0 | h0
  · subst h0
    have hj := Option.some.inj hj
    exact calm_at (c := c) (l := e.code) (by rw [← hj]) he hz (hi rfl)
  · obtain ⟨j1, rfl⟩ : ∃ j1, j = j1 + 1 := ⟨j - 1, by omega⟩
    have hj : (s1.done ++ (jmpB s1.code (k + 1 + s1.done.length + 1 + s2.done.length + 1) :: s2.done) ++ [jmpB s2.code (k + 1 + s1.done.length + 1 + s2.done.length + 1)])[j1]? = .some x := hj
    rw [List.append_assoc] at hj
    by_cases hl : j1 < s1.done.length
    · rw [List.getElem?_append_left hl] at hj
      have h9 := h1.fine j1 x hj i z hz (fun _ => Nat.zero_le _)
      rw [show k + (j1 + 1) = k + 1 + j1 by omega]
      exact h9
    · rw [List.getElem?_append_right (by omega)] at hj
      rcases Nat.eq_zero_or_pos (j1 - s1.done.length) with h0 | h0
      · rw [h0] at hj
        have hj := Option.some.inj hj
        exact calm_at (c := []) (l := s1.code) (by rw [← hj]; rfl) h1.code hz (Nat.zero_le _)
      · obtain ⟨j2, hj2⟩ : ∃ j2, j1 - s1.done.length = j2 + 1 := ⟨j1 - s1.done.length - 1, by omega⟩
        rw [hj2] at hj
        have hj : (s2.done ++ [jmpB s2.code (k + 1 + s1.done.length + 1 + s2.done.length + 1)])[j2]? = .some x := hj
        by_cases hl2 : j2 < s2.done.length
        · rw [List.getElem?_append_left hl2] at hj
          have h9 := h2.fine j2 x hj i z hz (fun _ => Nat.zero_le _)
          rw [show k + (j1 + 1) = k + 1 + s1.done.length + 1 + j2 by omega]
          exact h9
        · rw [List.getElem?_append_right (by omega)] at hj
          have hm := List.mem_singleton.1 (List.mem_of_getElem? hj)
          exact calm_at (c := []) (l := s2.code) (by rw [hm]; rfl) h2.code hz (Nat.zero_le _)
theorem loop_pos (B : List Blk) {lim : Int} {d : Nat} {h : LE} {enter : VM → VM} {b : LF} {k : Nat} {c : List Ins} {V : VM} (hin : InB18 B k (loopL lim d h enter b k c V)) (hh : ∀ i ∈ h.code, CalmM i) (hb : PosL B (k + 2) [insB 16 0 d 0 lim noB] (b (k + 2) [insB 16 0 d 0 lim noB] h.regs (enter V))) : PosL B k c (loopL lim d h enter b k c V) := by
  unfold loopL at hin ⊢
  dsimp only at hin ⊢
  obtain ⟨s, hs⟩ : ∃ s, b (k + 2) [insB 16 0 d 0 lim noB] h.regs (enter V) = s := ⟨_, rfl⟩
  rw [hs] at hin hb ⊢
  have hhd : B[k + 1]? = some ⟨h.code, 2, h.r, ((k + 2 : Nat) : Int), ((k + 2 + s.done.length + 1 : Nat) : Int)⟩ := hin 1 _ rfl
  have hlast : B[k + (2 + s.done.length)]? = some (jmpB (s.code ++ [insB 14 0 0 0 d noB]) (k + 1)) := hin (2 + s.done.length) _ (by
    show ([jmpB (c ++ [insB 13 0 0 0 d noB]) (k + 1), ⟨h.code, 2, h.r, ((k + 2 : Nat) : Int), ((k + 2 + s.done.length + 1 : Nat) : Int)⟩] ++ s.done ++ [jmpB (s.code ++ [insB 14 0 0 0 d noB]) (k + 1)])[2 + s.done.length]? = _
    rw [List.getElem?_append_right (by simp; omega), show 2 + s.done.length - ([jmpB (c ++ [insB 13 0 0 0 d noB]) (k + 1), ⟨h.code, 2, h.r, ((k + 2 : Nat) : Int), ((k + 2 + s.done.length + 1 : Nat) : Int)⟩] ++ s.done).length = 0 by simp; omega]
    rfl)
  have hcl : ClosedAt B (k + 2) ((d : Nat) : Int) := ⟨_, List.mem_of_getElem? hlast, rfl, ⟨insB 14 0 0 0 d noB, by show (s.code ++ [_]).getLast? = _; simp, rfl, rfl⟩, _, (by rw [show (jmpB (s.code ++ [insB 14 0 0 0 d noB]) (k + 1)).to.toNat = k + 1 from rfl]; exact hhd), rfl, .inl rfl⟩
  refine ⟨fun hd => absurd hd (by simp), fun _ => ⟨(fun i hi => by cases hi), _, [insB 13 0 0 0 d noB], rfl, rfl⟩, fun j x hj i z hz hi => ?_⟩
  have hj : ([jmpB (c ++ [insB 13 0 0 0 d noB]) (k + 1), ⟨h.code, 2, h.r, ((k + 2 : Nat) : Int), ((k + 2 + s.done.length + 1 : Nat) : Int)⟩] ++ s.done ++ [jmpB (s.code ++ [insB 14 0 0 0 d noB]) (k + 1)])[j]? = .some x := hj
  rw [List.append_assoc] at hj
  match j, hj, hi with
  | 0, hj, hi =>
    have hj := Option.some.inj hj
    exact calm_at (c := c) (l := [insB 13 0 0 0 d noB]) (by rw [← hj]) (fun i hi => by rw [List.mem_singleton.1 hi]; exact ⟨by show (13 : Int) ≠ 14; decide, by show (13 : Int) ≠ 16; decide⟩) hz (hi rfl)
  | 1, hj, hi =>
    have hj := Option.some.inj hj
    exact calm_at (c := []) (l := h.code) (by rw [← hj]; rfl) hh hz (Nat.zero_le _)
  | j2 + 2, hj, hi =>
    have hj : (s.done ++ [jmpB (s.code ++ [insB 14 0 0 0 d noB]) (k + 1)])[j2]? = .some x := hj
    have hlim : ∀ (x : Blk) (z : Ins), x.code[0]? = .some z → (∃ l, x.code = [insB 16 0 d 0 lim noB] ++ l) → InsFine B (k + 2) x 0 z := fun x z hz ⟨l, hl⟩ => by
      rw [hl] at hz
      have hz := Option.some.inj hz
      refine ⟨fun _ => ⟨rfl, ?_⟩, fun e => ?_⟩
      · rw [← hz]; exact hcl
      · rw [← hz] at e
        exact absurd e (by show ¬ (16 : Int) = 14; decide)
    by_cases hl : j2 < s.done.length
    · rw [List.getElem?_append_left hl] at hj
      rw [show k + (j2 + 2) = k + 2 + j2 by omega]
      by_cases hc : j2 = 0 → 1 ≤ i
      · exact hb.fine j2 x hj i z hz hc
      · have h0 : j2 = 0 := by
          by_cases h0 : j2 = 0
          · exact h0
          · exact absurd (fun h => absurd h h0) hc
        have hi0 : i = 0 := by
          by_cases h1 : 1 ≤ i
          · exact absurd (fun _ => h1) hc
          · omega
        subst h0 hi0
        obtain ⟨_, x0, c1, h2, h3⟩ := hb.some (by rintro e; rw [e] at hj; cases hj)
        rw [hj] at h2
        cases h2
        exact hlim x z hz ⟨c1, h3⟩
    · rw [List.getElem?_append_right (by omega)] at hj
      have hj2 : j2 = s.done.length := by
        have := (List.getElem?_eq_some_iff.1 hj).1
        simp at this
        omega
      have hm := List.mem_singleton.1 (List.mem_of_getElem? hj)
      subst hj2
      -- the block that closes the loop
      have hinc : ∀ i z, (s.code ++ [insB 14 0 0 0 d noB])[i]? = .some z → s.code.length ≤ i → InsFine B (k + (s.done.length + 2)) x i z := fun i z hz hi => by
        rw [List.getElem?_append_right hi] at hz
        have h0 : i = s.code.length := by
          have := (List.getElem?_eq_some_iff.1 hz).1
          simp at this
          omega
        have hz2 := List.mem_singleton.1 (List.mem_of_getElem? hz)
        refine ⟨fun e => ?_, fun _ => ⟨?_, by rw [hm], _, (by rw [hm]; exact hhd), rfl⟩⟩
        · rw [hz2] at e
          exact absurd e (by show ¬ (14 : Int) = 16; decide)
        · rw [hm, h0]; show _ = (s.code ++ [_]).length; simp
      have hz : (s.code ++ [insB 14 0 0 0 d noB])[i]? = .some z := by rw [hm] at hz; exact hz
      by_cases hil : i < s.code.length
      · by_cases hd : s.done = []
        · obtain ⟨c', h1, h2⟩ := hb.none hd
          rcases Nat.eq_zero_or_pos i with h0 | h0
          · subst h0
            have h9 := hlim x z (by rw [hm]; exact hz) ⟨c' ++ [insB 14 0 0 0 d noB], by rw [hm]; show s.code ++ _ = _; rw [h1, List.append_assoc]⟩
            rw [show k + (s.done.length + 2) = k + 2 by rw [hd]; simp]
            exact h9
          · rw [List.getElem?_append_left hil, h1, List.getElem?_append_right (show 1 ≤ i from h0)] at hz
            exact InsFine.calm (h2 z (List.mem_of_getElem? hz))
        · rw [List.getElem?_append_left hil] at hz
          exact InsFine.calm ((hb.some hd).1 z (List.mem_of_getElem? hz))
      · exact hinc i z hz (by omega)
end Go.Proofs.YtkpdngfkdmllkaaDoor

/-
  Plain law of LowerLoops, third part: the positions in every statement. No walk here.
-/
namespace Go.Proofs.YtkpdngfkdmllkaaDoor
set_option linter.unusedVariables false
set_option linter.unusedSimpArgs false
open Go.RowKit
set_option maxRecDepth 100000

theorem calm_app {a b : List Ins} (ha : ∀ i ∈ a, CalmM i) (hb : ∀ i ∈ b, CalmM i) : ∀ i ∈ a ++ b, CalmM i := fun i hi => by
  rcases List.mem_append.1 hi with hi | hi
  · exact ha i hi
  · exact hb i hi
theorem calm_cons {a : Ins} {b : List Ins} (ha : CalmM a) (hb : ∀ i ∈ b, CalmM i) : ∀ i ∈ a :: b, CalmM i := fun i hi => by
  rcases List.mem_cons.1 hi with rfl | hi
  · exact ha
  · exact hb i hi
theorem calm_nil : ∀ i ∈ ([] : List Ins), CalmM i := fun i hi => by cases hi
theorem low_pos (B : List Blk) (E : LEnv) : ∀ (t : Tree), (t.vld 98 = true ∨ t.vld 115 = true) → ∀ (d k : Nat) (c : List Ins) (R : Nat) (V : VM), InB18 B k (t.low E d k c R V) → PosL B k c (t.low E d k c R V) := by
  intro t
  induction t using Tree.ind with
  | h t ih =>
    intro hv d k c R V
    rw [Tree.low_eq]
    rcases hv with hv | hv
    · obtain ⟨hk, hkid⟩ := vldB hv
      rw [if_pos hk]
      have key : ∀ n, n ≤ t.len → InB18 B k (seqL (fun i => kidL E t i d) k c R V n) → PosL B k c (seqL (fun i => kidL E t i d) k c R V n) := by
        intro n
        induction n with
        | zero => intro _ _; exact PosL.leaf (c' := []) rfl (List.append_nil c).symm (fun i hi => by cases hi)
        | succ n ihn =>
          intro hn hin
          have hin : InB18 B k ((seqL (fun i => kidL E t i d) k c R V n).next k (kidL E t n d)) := hin
          show PosL B k c ((seqL (fun i => kidL E t i d) k c R V n).next k (kidL E t n d))
          have h3 : kidL E t n d = (t.kid n).low E d := by unfold kidL; rw [if_pos (show n < t.len by omega)]
          have h1 := ihn (by omega)
          obtain ⟨q, hq⟩ : ∃ q, seqL (fun i => kidL E t i d) k c R V n = q := ⟨_, rfl⟩
          rw [hq] at h1 hin ⊢
          rw [h3] at hin ⊢
          have h2 := ih n (by omega) (.inr (hkid n (by omega))) d (k + q.done.length) q.code q.regs q.vars
          refine PosL.next (h1 (fun i x hx => hin i x ?_)) (h2 (fun i x hx => ?_))
          · show (q.done ++ _)[i]? = _
            rw [List.getElem?_append_left (List.getElem?_eq_some_iff.1 hx).1]
            exact hx
          · rw [Nat.add_assoc]
            refine hin (q.done.length + i) x ?_
            show (q.done ++ _)[q.done.length + i]? = _
            rw [List.getElem?_append_right (by omega), Nat.add_sub_cancel_left]
            exact hx
      exact key t.len (Nat.le_refl _)
    · obtain ⟨⟨hk1, hk2⟩, _, hlen, hkid⟩ := vldS hv
      rw [if_neg (by omega)]
      have hb : ∀ i, i < t.len → (t.kid i).vld 98 = true → ∀ d k c R V, InB18 B k (kidL E t i d k c R V) → PosL B k c (kidL E t i d k c R V) := fun i hi hvi d k c R V => by
        have h3 : kidL E t i d = (t.kid i).low E d := by unfold kidL; rw [if_pos hi]
        rw [h3]
        exact ih i hi (.inl hvi) d k c R V
      have he : ∀ j V R, ∀ i ∈ (kidLE E t j V R).code, CalmM i := fun j V R i hi => (kidLE_calmL E t j V R i hi).m
      have heE : ∀ (x : Tree) V R, ∀ i ∈ (x.lowE E V R).code, CalmM i := fun x V R i hi => (lowE_calmL E V x R i hi).m
      have cm : ∀ {op d x y imm : Int} {s : ByteArray}, (op ≠ 14 ∧ op ≠ 16) → CalmM (insB op d x y imm s) := fun h => h
      have sto : ∀ s (i v : Int), CalmM (stoB E s i v) := fun s i v => by
        unfold stoB
        by_cases h : E.sh s = true
        · rw [if_pos h]; exact cm (by decide)
        · rw [if_neg h]; exact cm (by decide)
      have hloop : ∀ (lim : Int) (h : LE) (enter : VM → VM) (b : LF), (∀ i ∈ h.code, CalmM i) → (∀ k c R V, InB18 B k (b k c R V) → PosL B k c (b k c R V)) → InB18 B k (loopL lim d h enter b k c V) → PosL B k c (loopL lim d h enter b k c V) := fun lim h enter b hh hbb hin => by
        refine loop_pos B hin hh (hbb _ _ _ _ (fun i x hx => ?_))
        rw [Nat.add_assoc]
        refine hin (2 + i) x ?_
        unfold loopL
        dsimp only
        rw [List.append_assoc, List.getElem?_append_right (by simp), show 2 + i - ([jmpB (c ++ [insB 13 0 0 0 d noB]) (k + 1), (⟨h.code, 2, h.r, ((k + 2 : Nat) : Int), ((k + 2 + (b (k + 2) [insB 16 0 d 0 lim noB] h.regs (enter V)).done.length + 1 : Nat) : Int)⟩ : Blk)]).length = i by simp, List.getElem?_append_left (List.getElem?_eq_some_iff.1 hx).1]
        exact hx
      obtain hk | hk | hk | hk | hk | hk | hk : t.kind = 40 ∨ t.kind = 41 ∨ t.kind = 42 ∨ t.kind = 43 ∨ t.kind = 44 ∨ t.kind = 45 ∨ t.kind = 46 := by omega
      all_goals rw [hk] at hlen hkid
      · unfold lowS
        rw [if_pos hk]
        intro _
        by_cases h2 : (t.kid 0).kind = 2
        · rw [if_pos h2]
          exact PosL.leaf (c' := _ ++ _) rfl (List.append_assoc _ _ _) (calm_app (he 1 V R) (calm_cons (cm (by decide)) calm_nil))
        · rw [if_neg h2]
          exact PosL.leaf (c' := _ ++ (_ ++ _)) rfl (by rw [← List.append_assoc, ← List.append_assoc]) (calm_app (heE _ V R) (calm_app (he 1 V _) (calm_cons (cm (by decide)) (calm_cons (sto _ _ _) calm_nil))))
      · have hlen : t.len = 3 := hlen
        unfold lowS
        rw [if_neg (by omega), if_pos hk]
        intro hin
        refine if_pos_ B (he 0 V R) (hb 1 (by omega) (hkid 1 (by omega)) _ _ _ _ _ (fun i x hx => ?_)) (hb 2 (by omega) (hkid 2 (by omega)) _ _ _ _ _ (fun i x hx => ?_))
        · rw [show k + 1 + i = k + (i + 1) by omega]
          refine hin (i + 1) x ?_
          unfold ifL
          dsimp only
          rw [List.append_assoc, List.getElem?_append_left (by have := (List.getElem?_eq_some_iff.1 hx).1; simp; omega), List.getElem?_cons_succ]
          exact hx
        · obtain ⟨s1, hs1⟩ : ∃ s1, kidL E t 1 d (k + 1) [] (kidLE E t 0 V R).regs V = s1 := ⟨_, rfl⟩
          unfold ifL at hin
          dsimp only at hin
          rw [hs1] at hx hin ⊢
          rw [show k + 1 + s1.done.length + 1 + i = k + (s1.done.length + 1 + (i + 1)) by omega]
          refine hin (s1.done.length + 1 + (i + 1)) x ?_
          dsimp only
          rw [List.append_assoc, List.getElem?_append_right (by simp), show s1.done.length + 1 + (i + 1) - (_ :: s1.done).length = i + 1 by simp]
          rw [List.cons_append, List.getElem?_cons_succ, List.getElem?_append_left (List.getElem?_eq_some_iff.1 hx).1]
          exact hx
      · have hlen : t.len = 1 := hlen
        unfold lowS
        rw [if_neg (by omega), if_neg (by omega), if_pos hk]
        intro hin
        have h9 := hloop t.num (forH t.num d R) (fun V => upd V t.name (some R)) (kidL E t 0 (d + 1)) (calm_cons (cm (by decide)) (calm_cons (cm (by decide)) (calm_cons (cm (by decide)) calm_nil))) (hb 0 (by omega) (hkid 0 (by omega)) (d + 1)) hin
        exact ⟨h9.none, h9.some, h9.fine⟩
      · have hlen : t.len = 2 := hlen
        unfold lowS
        rw [if_neg (by omega), if_neg (by omega), if_neg (by omega), if_pos hk]
        exact hloop _ _ _ _ (he 0 V R) (hb 1 (by omega) (hkid 1 (by omega)) (d + 1))
      · unfold lowS
        rw [if_neg (by omega), if_neg (by omega), if_neg (by omega), if_neg (by omega), if_pos hk]
        intro _
        by_cases h2 : (t.kid 0).kind = 2
        · rw [if_pos h2]
          exact PosL.leaf (c' := [_]) rfl rfl (calm_cons (cm (by decide)) calm_nil)
        · rw [if_neg h2]
          exact PosL.leaf (c' := _ ++ _) rfl (List.append_assoc _ _ _) (calm_app (heE _ V R) (calm_cons (cm (by decide)) (calm_cons (cm (by decide)) (calm_cons (sto _ _ _) calm_nil))))
      · unfold lowS
        rw [if_neg (by omega), if_neg (by omega), if_neg (by omega), if_neg (by omega), if_neg (by omega), if_pos hk]
        intro _
        exact PosL.leaf (c' := _ ++ _) rfl (List.append_assoc _ _ _) (calm_app (he 0 V R) (calm_cons (cm (by decide)) calm_nil))
      · have hlen : t.len = 1 := hlen
        unfold lowS
        rw [if_neg (by omega), if_neg (by omega), if_neg (by omega), if_neg (by omega), if_neg (by omega), if_neg (by omega), if_pos hk]
        exact fun hin => PosL.lock (hb 0 (by omega) (hkid 0 (by omega)) d k (c ++ [insB 11 0 0 0 0 t.name]) R V hin) (cm (by decide)) (cm (by decide))
/-- in the function of a task every instruction of a loop stands where it may -/
theorem lowFn_pos (shared : List Arr) (t : Tsk) (hv : t.body.vld 98 = true) : ∀ b x, (lowFn shared t).blocks[b]? = some x → ∀ i z, x.code[i]? = some z → InsFine (lowFn shared t).blocks b x i z := by
  intro b x hb i z hz
  obtain ⟨s, hs⟩ : ∃ s, lowS0 shared t = s := ⟨_, rfl⟩
  have hB : (lowFn shared t).blocks = s.done ++ [⟨s.code, 3, 0, 0, 0⟩] := by rw [← hs]; rfl
  have hin : InB18 (lowFn shared t).blocks 0 s := fun i x hx => by
    rw [hB, Nat.zero_add, List.getElem?_append_left (List.getElem?_eq_some_iff.1 hx).1]
    exact hx
  have hp : PosL (lowFn shared t).blocks 0 [] s := by
    have h9 := low_pos (lowFn shared t).blocks (envOf shared t.arrays) t.body (.inl hv) 0 0 [] t.vars.length (varsM t.vars t.vars.length)
    have e : t.body.low (envOf shared t.arrays) 0 0 [] t.vars.length (varsM t.vars t.vars.length) = s := hs
    rw [e] at h9
    exact h9 hin
  have hb' := hb
  rw [hB] at hb'
  by_cases hl : b < s.done.length
  · rw [List.getElem?_append_left hl] at hb'
    have h9 := hp.fine b x hb' i z hz (fun _ => Nat.zero_le _)
    rw [Nat.zero_add] at h9
    exact h9
  · rw [List.getElem?_append_right (by omega)] at hb'
    have hm := List.mem_singleton.1 (List.mem_of_getElem? hb')
    exact InsFine.calm (hp.code z (by rw [hm] at hz; exact List.mem_of_getElem? hz))
end Go.Proofs.YtkpdngfkdmllkaaDoor

/-
  Plain law of LowerLoops, third part: the instructions of loops in the function of a task, the pairs of its Limit instructions. No walk here.
-/
namespace Go.Proofs.YtkpdngfkdmllkaaDoor
set_option linter.unusedVariables false
set_option linter.unusedSimpArgs false
open Go.RowKit
set_option maxRecDepth 100000

theorem lowFn_cntL {f : Ins → Bool} {P : Nat × Int → Bool} (h : CntL f P) (shared : List Arr) (t : Tsk) (hv : t.body.vld 98 = true) : (lowFn shared t).cnt f = (t.body.loops 0).countP P := by
  have h1 := low_cntL h (envOf shared t.arrays) t.body (.inl hv) 0 0 [] t.vars.length (varsM t.vars t.vars.length)
  unfold LS.cnt at h1
  unfold Fn.cnt lowFn lowS0
  simp only [List.map_append, List.map_cons, List.map_nil, List.sum_append, List.sum_cons, List.sum_nil, List.countP_nil, Nat.zero_add, Nat.add_zero] at h1 ⊢
  exact h1
def opP (q : Nat × Int) (i : Ins) : Bool := decide (i.op = 16) && decide ((i.x.toNat, i.imm) = q)
def opNeg (i : Ins) : Bool := decide (i.op = 16) && decide (i.x < 0)
theorem cnt_pair (q : Nat × Int) : CntL (opP q) (fun x => decide (x = q)) := ⟨fun i hi => by unfold opP; rw [decide_eq_false hi.2.2]; rfl, fun d n => by simp [opP, List.countP_cons]⟩
theorem cnt_neg : CntL opNeg (fun _ => false) := ⟨fun i hi => by unfold opNeg; rw [decide_eq_false hi.2.2]; rfl, fun d n => by
  have : ¬ ((d : Nat) : Int) < 0 := by omega
  simp [opNeg, List.countP_cons]⟩
theorem cnt_lim : CntL (opA 16) (fun _ => true) := ⟨fun i hi => by unfold opA; rw [decide_eq_false hi.2.2], fun d n => by simp [opA, List.countP_cons]⟩
theorem cnt_inc : CntL (opA 14) (fun _ => true) := ⟨fun i hi => by unfold opA; rw [decide_eq_false hi.2.1], fun d n => by simp [opA, List.countP_cons]⟩
theorem cnt_zero : CntL (opA 13) (fun _ => true) := ⟨fun i hi => by unfold opA; rw [decide_eq_false hi.1], fun d n => by simp [opA, List.countP_cons]⟩
def pairI (i : Ins) : Nat × Int := (i.x.toNat, i.imm)
/-- the pairs of the Limit instructions -/
def limI (l : List Ins) : List (Nat × Int) := (l.filter (opA 16)).map pairI
def limB (l : List Blk) : List (Nat × Int) := l.flatMap (fun b => limI b.code)
theorem limI_yes {l : List Ins} {m : Nat} {c : Ins} (h : l[m]? = some c) (hc : c.op = 16) : limI (l.take (m + 1)) = limI (l.take m) ++ [pairI c] := by
  unfold limI
  rw [List.take_add_one, h, List.filter_append, List.map_append]
  simp [opA, hc]
theorem limI_no {l : List Ins} {m : Nat} {c : Ins} (h : l[m]? = some c) (hc : ¬ c.op = 16) : limI (l.take (m + 1)) = limI (l.take m) := by
  unfold limI
  rw [List.take_add_one, h, List.filter_append, List.map_append]
  simp [opA, hc]
theorem limB_next {l : List Blk} {j : Nat} {b : Blk} (h : l[j]? = some b) : limB (l.take (j + 1)) = limB (l.take j) ++ limI b.code := by
  unfold limB
  rw [List.take_add_one, h, List.flatMap_append]
  simp
theorem limI_cnt (q : Nat × Int) (l : List Ins) : (limI l).countP (fun x => decide (x = q)) = l.countP (opP q) := by
  unfold limI
  rw [List.countP_map, List.countP_filter]
  congr 1
  funext i
  unfold opP opA pairI
  simp [Bool.and_comm]
theorem limI_len (l : List Ins) : (limI l).length = l.countP (opA 16) := by unfold limI; rw [List.length_map, List.countP_eq_length_filter]
theorem limB_cnt (q : Nat × Int) (l : List Blk) : (limB l).countP (fun x => decide (x = q)) = cB (opP q) l := by
  unfold limB cB
  rw [List.countP_flatMap]
  congr 1
  refine List.map_congr_left (fun b _ => ?_)
  exact limI_cnt q b.code
theorem limB_len (l : List Blk) : (limB l).length = cB (opA 16) l := by
  unfold limB cB
  rw [List.length_flatMap]
  congr 1
  refine List.map_congr_left (fun b _ => ?_)
  exact limI_len b.code
theorem cB_zero {f : Ins → Bool} {l : List Blk} (h : cB f l = 0) {b : Blk} (hb : b ∈ l) {i : Ins} (hi : i ∈ b.code) : f i = false := by
  unfold cB at h
  have h1 := List.sum_eq_zero_iff_forall_eq_nat.1 h _ (List.mem_map.2 ⟨b, hb, rfl⟩)
  have h2 := List.countP_eq_zero.1 h1 i hi
  simpa using h2
/-- a Limit's counter is a number -/
theorem lowFn_limit {shared : List Arr} {t : Tsk} (hv : t.body.vld 98 = true) {b : Blk} (hb : b ∈ (lowFn shared t).blocks) {i : Ins} (hi : i ∈ b.code) (ho : i.op = 16) : 0 ≤ i.x := by
  have h1 := lowFn_cntL cnt_neg shared t hv
  rw [show (t.body.loops 0).countP (fun _ => false) = 0 from by simp] at h1
  have h2 := cB_zero (f := opNeg) (l := (lowFn shared t).blocks) h1 hb hi
  unfold opNeg at h2
  rw [decide_eq_true ho, Bool.true_and] at h2
  have := of_decide_eq_false h2
  omega
theorem lowFn_limits {shared : List Arr} {t : Tsk} (hv : t.body.vld 98 = true) (q : Nat × Int) : (limB (lowFn shared t).blocks).countP (fun x => decide (x = q)) = (t.body.loops 0).countP (fun x => decide (x = q)) := by
  rw [limB_cnt]
  exact lowFn_cntL (cnt_pair q) shared t hv
theorem lowFn_many {f : Ins → Bool} (h : CntL f (fun _ => true)) {shared : List Arr} {t : Tsk} (hv : t.body.vld 98 = true) : cB f (lowFn shared t).blocks = (t.body.loops 0).length := by
  have h1 := lowFn_cntL h shared t hv
  rw [show (t.body.loops 0).countP (fun _ => true) = (t.body.loops 0).length from by simp] at h1
  exact h1
/-- an own row of pairs is a row of pairs -/
theorem pairs_own {w : World} {N : Nat} {a : Option Addr} {n c : Nat} {L : List (Nat × Int)} (h : w.ownsRow N 49 2 (.slice a n c) n (L.flatMap pairC)) (hn : L.length = n) (hl : n ≤ 1000000) : PairsAt w a L := by
  refine ⟨by omega, fun k x hk => ?_⟩
  have hkl := (List.getElem?_eq_some_iff.1 hk).1
  obtain ⟨b, rfl, _, _⟩ := own_at h (by omega)
  have e0 := flat_get (f := pairC) (n := 2) (fun _ => rfl) hk (o := 0) (by omega)
  have e1 := flat_get (f := pairC) (n := 2) (fun _ => rfl) hk (o := 1) (by omega)
  refine ⟨b, 0, rfl, ?_, ?_⟩
  · rw [Nat.zero_add]; exact own_get h (by rw [Nat.add_zero] at e0; rw [e0]; rfl)
  · rw [Nat.zero_add]; exact own_get h (by rw [e1]; rfl)
theorem PairsAt.below {w w' : World} {a : Option Addr} {L : List (Nat × Int)} (h : PairsAt w a L) (hB : Below w.heap.size w w') : PairsAt w' a L := ⟨h.1, fun k x hk => by
  obtain ⟨b, o, ha, h0, h1⟩ := h.2 k x hk
  exact ⟨b, o, ha, cell_below hB h0, cell_below hB h1⟩⟩
end Go.Proofs.YtkpdngfkdmllkaaDoor

/-
  Contract: closed (package ontimelaw18).
-/
namespace Go.Proofs.YtkpdngfkdmllkaaDoor
set_option linter.unusedVariables false
set_option linter.unusedSimpArgs false
open Go.RowKit
set_option maxRecDepth 100000
set_option maxHeartbeats 4000000

/-- what `closed` asks of a block -/
def shutB (z : Ins) (h : Blk) (b : Nat) (n : Int) : Bool := (z.op == 14) && (z.imm == n) && (h.kind == 2) && ((h.to == (b : Nat)) || (h.els == (b : Nat)))
theorem closed_any (F : Fn) (b : Nat) (n : Int) (w : World) (aa ba : Option Addr) (ac bc : Nat) (h : FnAt w F aa ba) (ht : ∀ x ∈ F.blocks, x.kind = 1 → 0 ≤ x.to ∧ x.to < (F.blocks.length : Nat)) (hc : ClosedAt F.blocks b n) :
    Calls Tryd.prog 12 #[fnVal F.name F.regs aa F.arrays.length ac ba F.blocks.length bc, .int .i64 (b : Nat), .int .i64 n] w fun e w' => e = .returned (.bool true) ∧ Below w.heap.size w w' := by
  have H := Lib.hid h
  have HT := Lib.hid ht
  obtain ⟨yb, hyb, hyk, ⟨yz, hyz, hyo, hyi⟩, yh, hyh, hyhk, hyt⟩ := hc
  obtain ⟨jy, hjl, hjy⟩ := List.mem_iff_getElem.1 hyb
  have hjy' : F.blocks[jy]? = some yb := by rw [List.getElem?_eq_getElem hjl, hjy]
  have HJY := Lib.hid hjy'
  have HYK := Lib.hid hyk
  have HYZ := Lib.hid hyz
  have HYH := Lib.hid hyh
  have HYS : Hid (shutB yz yh b n = true) := by
    show shutB _ _ _ _ = true
    unfold shutB
    rw [hyo, hyi, hyhk]
    rcases hyt with e | e <;> simp [e]
  have hbn := h.blocks.fits
  obtain ⟨an, hn1⟩ : ∃ n, F.arrays.length = n := ⟨_, rfl⟩
  obtain ⟨bn, hn2⟩ : ∃ n, F.blocks.length = n := ⟨_, rfl⟩
  have HNN : Hid (F.arrays.length = an ∧ F.blocks.length = bn) := ⟨hn1, hn2⟩
  rw [hn2] at hjl hbn HT
  simp only [hn1, hn2]
  clear h ht hyb hyk hyz hyo hyi hyh hyhk hyt hjy hjy'
  obtain ⟨W, hW⟩ : ∃ W : World, w.alloc (fnObj F.name F.regs (.slice aa an ac) (.slice ba bn bc)) = W := ⟨_, rfl⟩
  have HBW : Hid (Below w.heap.size w W) := by show Below _ _ _; rw [← hW]; exact mem_alloc _ _
  have HBX : Hid (W.heap[w.heap.size]? = some (fnObj F.name F.regs (.slice aa an ac) (.slice ba bn bc))) := by show _ = _; rw [← hW]; exact mem_new _ _
  have HFN := Lib.hid (H.out.below HBW.out)
  obtain ⟨v0, v1, v2, v3, _⟩ := fn_four HBX.out
  clear hn1 hn2 H
  go_enter Tryd.func12, Tryd.ntmps12
  go_wp2_with fail
  clear hW v0 v1 v2 v3
  go_loopw [14] (fun iv wr => ∃ j : Nat, j ≤ jy ∧ iv = .int .i64 (j : Int) ∧ Below W.heap.size W wr) (fun iv _ => bn - (intOf iv).toNat)
  case atStart => exact ⟨0, Nat.zero_le _, rfl, Below.refl _ _⟩
  case round =>
    obtain ⟨j, hj, rfl, hB⟩ := hrel
    have HB := Lib.hid hB
    have hj0 : (0 : Int) ≤ (j : Int) := by omega
    have hlt : j < bn := by omega
    have HLT : Hid (j < bn) := hlt
    have hlt2 : (j : Int) < (bn : Int) := by omega
    obtain ⟨x, hx⟩ : ∃ x, F.blocks[j]? = some x := ⟨_, List.getElem?_eq_getElem (by rw [HNN.out.2]; exact hlt)⟩
    have HX := Lib.hid hx
    rcases HFN.out.blocks.at_ with h0 | ⟨gb, go', rfl, hcs⟩
    · exfalso; rw [HNN.out.2] at h0; omega
    have HCS := Lib.hid hcs
    obtain ⟨ca, cc, ⟨e0, e1, e2, e3, e4⟩, hcode⟩ := hcs j x hx
    have c0 := cell_below hB e0
    have c1 := cell_below hB e1
    have c2 := cell_below hB e2
    have c3 := cell_below hB e3
    have c4 := cell_below hB e4
    clear e0 e1 e2 e3 e4
    obtain ⟨nc, hnc⟩ : ∃ k, x.code.length = k := ⟨_, rfl⟩
    have HNC := Lib.hid hnc
    rw [hnc] at c0
    obtain ⟨D, hD⟩ : ∃ D : World, wr.alloc (.cells #[.slice ca nc cc, .int .u8 x.kind, .int .i64 x.x, .int .i64 x.to, .int .i64 x.els] 46) = D := ⟨_, rfl⟩
    have hBD : Below wr.heap.size wr D := by rw [← hD]; exact mem_alloc _ _
    have hXD : D.heap[wr.heap.size]? = some (.cells #[.slice ca nc cc, .int .u8 x.kind, .int .i64 x.x, .int .i64 x.to, .int .i64 x.els] 46) := by rw [← hD]; exact mem_new _ _
    have HXD := Lib.hid hXD
    have d0 : D.cell? ⟨wr.heap.size, 0, none⟩ = some (.slice ca nc cc) := mem_cell hXD 0
    have d1 : D.cell? ⟨wr.heap.size, 1, none⟩ = some (.int .u8 x.kind) := mem_cell hXD 1
    have d3 : D.cell? ⟨wr.heap.size, 3, none⟩ = some (.int .i64 x.to) := mem_cell hXD 3
    have HBD := Lib.hid (mem_then HB.out hBD)
    have HCODE := Lib.hid hcode
    have hci : nc ≤ 9223372036854775807 := by rw [← hnc]; exact hcode.fits
    have hne : j ≠ jy → j + 1 ≤ jy := by omega
    have HNE := Lib.hid hne
    clear hB hx hcs hcode hnc hBD hXD hj hlt hne
    by_cases hn0 : nc = 0
    · subst hn0
      have HJ : Hid (j ≠ jy) := by
        rintro rfl
        have e1 := HX.out.symm.trans HJY.out
        cases e1
        have e2 := HYZ.out
        rw [List.length_eq_zero_iff.1 HNC.out] at e2
        cases e2
      go_wp2_with fail
      clear c0 c1 c2 c3 c4 d0 d1 d3 hD
      go_roundw
      case rel => exact ⟨j + 1, HNE.out HJ.out, by go_num, HBD.out⟩
      case measure => have := HLT.out; simp [intOf]; omega
    have hn0d : ((nc : Int) == 0) = false := by simpa using hn0
    have HN0 := Lib.hid hn0
    clear hn0
    by_cases hk1 : x.kind = 1
    case neg =>
      have HJ : Hid (j ≠ jy) := by
        rintro rfl
        have e1 := HX.out.symm.trans HJY.out
        cases e1
        exact hk1 HYK.out
      have hk1d : (x.kind != 1) = true := by simpa using hk1
      clear hk1
      go_wp2_with fail
      clear c0 c1 c2 c3 c4 d0 d1 d3 hD
      go_roundw
      case rel => exact ⟨j + 1, HNE.out HJ.out, by go_num, HBD.out⟩
      case measure => have := HLT.out; simp [intOf]; omega
    have hk1d : (x.kind != 1) = false := by simpa using hk1
    have HK1 := Lib.hid hk1
    obtain ⟨m, rfl⟩ : ∃ m, nc = m + 1 := ⟨nc - 1, by have := HN0.out; omega⟩
    obtain ⟨z, hz⟩ : ∃ z, x.code[m]? = some z := ⟨_, List.getElem?_eq_getElem (by rw [HNC.out]; omega)⟩
    have HZ : Hid (x.code.getLast? = some z) := by show _ = _; rw [List.getLast?_eq_getElem?, HNC.out]; exact hz
    rcases HCODE.out.at_ with h0 | ⟨gc, gf, rfl, hcz⟩
    · exfalso; rw [HNC.out] at h0; omega
    obtain ⟨e0, e1, e2, e3, e4, e5⟩ := hcz m z hz
    have z0 := cell_below HBD.out e0
    have z1 := cell_below HBD.out e1
    have z2 := cell_below HBD.out e2
    have z3 := cell_below HBD.out e3
    have z4 := cell_below HBD.out e4
    have z5 := cell_below HBD.out e5
    have hm1 : ((m + 1 : Nat) : Int) - 1 = (m : Int) := by omega
    obtain ⟨ht0, htl⟩ := HT.out x (List.mem_of_getElem? HX.out) hk1
    obtain ⟨tn, htn⟩ : ∃ k : Nat, x.to = (k : Int) := ⟨x.to.toNat, by omega⟩
    have htnl : tn < bn := by omega
    obtain ⟨hb, hhb⟩ : ∃ hb, F.blocks[tn]? = some hb := ⟨_, List.getElem?_eq_getElem (by rw [HNN.out.2]; exact htnl)⟩
    have HHB : Hid (F.blocks[x.to.toNat]? = some hb) := by show _ = _; rw [htn, Int.toNat_natCast]; exact hhb
    obtain ⟨ha, hcc, ⟨f0, f1, f2, f3, f4⟩, _⟩ := HCS.out tn hb hhb
    rw [htn] at c3 d3 HXD hD
    obtain ⟨E, hE⟩ : ∃ E : World, D.alloc (.cells #[.int .u8 z.op, .int .i64 z.dst, .int .i64 z.x, .int .i64 z.y, .int .i64 z.imm, .string z.sym] 48) = E := ⟨_, rfl⟩
    have hBE : Below D.heap.size D E := by rw [← hE]; exact mem_alloc _ _
    have hXE : E.heap[D.heap.size]? = some (.cells #[.int .u8 z.op, .int .i64 z.dst, .int .i64 z.x, .int .i64 z.y, .int .i64 z.imm, .string z.sym] 48) := by rw [← hE]; exact mem_new _ _
    have HBE := Lib.hid (mem_then HBD.out hBE)
    obtain ⟨v0, v1, v2, v3, _⟩ := fn_four (mem_keep HBX.out HBE.out)
    have d3E : E.cell? ⟨wr.heap.size, 3, none⟩ = some (.int .i64 (tn : Int)) := mem_cell (mem_keep HXD.out hBE) 3
    have h0 := cell_below HBE.out f0
    have h1 := cell_below HBE.out f1
    have h2 := cell_below HBE.out f2
    have h3 := cell_below HBE.out f3
    have h4 := cell_below HBE.out f4
    obtain ⟨G, hG⟩ : ∃ G : World, E.alloc (.cells #[.slice ha hb.code.length hcc, .int .u8 hb.kind, .int .i64 hb.x, .int .i64 hb.to, .int .i64 hb.els] 46) = G := ⟨_, rfl⟩
    have hBG : Below E.heap.size E G := by rw [← hG]; exact mem_alloc _ _
    have hXG : G.heap[E.heap.size]? = some (.cells #[.slice ha hb.code.length hcc, .int .u8 hb.kind, .int .i64 hb.x, .int .i64 hb.to, .int .i64 hb.els] 46) := by rw [← hG]; exact mem_new _ _
    have b1 : G.cell? ⟨E.heap.size, 1, none⟩ = some (.int .u8 hb.kind) := mem_cell hXG 1
    have b3 : G.cell? ⟨E.heap.size, 3, none⟩ = some (.int .i64 hb.to) := mem_cell hXG 3
    have b4 : G.cell? ⟨E.heap.size, 4, none⟩ = some (.int .i64 hb.els) := mem_cell hXG 4
    have hXGE := mem_keep hXE hBG
    have g0 : G.cell? ⟨D.heap.size, 0, none⟩ = some (.int .u8 z.op) := mem_cell hXGE 0
    have g4 : G.cell? ⟨D.heap.size, 4, none⟩ = some (.int .i64 z.imm) := mem_cell hXGE 4
    have HBG := Lib.hid (mem_then HBE.out hBG)
    obtain ⟨cl, hcl⟩ : ∃ k, hb.code.length = k := ⟨_, rfl⟩
    obtain ⟨t1, ht1⟩ : ∃ q, (z.op == 14) = q := ⟨_, rfl⟩
    obtain ⟨t2, ht2⟩ : ∃ q, (z.imm == n) = q := ⟨_, rfl⟩
    obtain ⟨t3, ht3⟩ : ∃ q, (hb.kind == 2) = q := ⟨_, rfl⟩
    obtain ⟨t4, ht4⟩ : ∃ q, (hb.to == (b : Int)) = q := ⟨_, rfl⟩
    obtain ⟨t5, ht5⟩ : ∃ q, (hb.els == (b : Int)) = q := ⟨_, rfl⟩
    have HSB : Hid (shutB z hb b n = (t1 && t2 && t3 && (t4 || t5))) := by show _ = _; unfold shutB; rw [ht1, ht2, ht3, ht4, ht5]
    rw [hcl] at hG h0
    clear hz hcz e0 e1 e2 e3 e4 e5 ht0 htl htn hhb f0 f1 f2 f3 f4 hBE hXE hBG hXG hXGE hcl hk1
    go_upto_region 7 with fail
    clear c0 c1 c2 c3 c4 d0 d1 d3 hD z0 z1 z2 z3 z4 z5 v0 v1 v2 v3 d3E h0 h1 h2 h3 h4 hE hG hm1
    go_cut [66] from 41 to 66 (fun u w' => u = .bool (shutB z hb b n) ∧ w' = G)
    case first =>
      cases t1 <;> cases t2 <;> cases t3 <;> cases t4 <;> cases t5
      all_goals
        go_wp2_with fail
        go_meet
        exact ⟨by rw [HSB.out]; rfl, rfl⟩
    obtain ⟨rfl, hwc⟩ := hcut
    rw [hwc]
    clear hwc ht1 ht2 ht3 ht4 ht5 b1 b3 b4 g0 g4
    by_cases hs : shutB z hb b n = true
    · clear HSB
      rw [hs]
      go_wp2_with fail
      go_ret
      exact ⟨rfl, mem_then HBW.out HBG.out⟩
    · have HJ : Hid (j ≠ jy) := by
        rintro rfl
        have e1 := HX.out.symm.trans HJY.out
        cases e1
        have e2 := HZ.out.symm.trans HYZ.out
        cases e2
        have e3 := HHB.out.symm.trans HYH.out
        cases e3
        exact hs HYS.out
      rw [Bool.not_eq_true] at hs
      rw [hs]
      clear HSB
      go_wp2_with fail
      go_roundw
      case rel => exact ⟨j + 1, HNE.out HJ.out, by go_num, HBG.out⟩
      case measure => have := HLT.out; simp [intOf]; omega
end Go.Proofs.YtkpdngfkdmllkaaDoor

/-
  LowerLoops (package ontimelaw18): every loop has the promised form.
-/
namespace Go.Proofs.YtkpdngfkdmllkaaDoor
set_option linter.unusedVariables false
set_option linter.unusedSimpArgs false
open Go.RowKit
set_option maxRecDepth 100000
set_option maxHeartbeats 8000000

/-- the pairs so far, in a row of the call's own -/
def LimSt (N : Nat) (Y : World) (la : Option Addr) (lc : Nat) (L : List (Nat × Int)) (w' : World) : Prop := w'.ownsRow N 49 2 (.slice la L.length lc) L.length (L.flatMap pairC) ∧ Below Y.heap.size Y w'
theorem LimSt.keep {N : Nat} {Y w w' : World} {la : Option Addr} {lc : Nat} {L : List (Nat × Int)} (h : LimSt N Y la lc L w) (hB : Below w.heap.size w w') : LimSt N Y la lc L w' := ⟨own_below h.1 hB, h.2.trans (hB.mono h.2.size)⟩
theorem grown_apart {V w2 : World} {N : Nat} {e : TypeId} {size n : Nat} {v : Value} {xs : List Value} (ho : V.ownsRow N e size v n xs) (hg : V.grownBy w2 v.ownBlock) : ∀ (k : Nat) arr t, V.heap[k]? = some (.cells arr t) → t ≠ e → w2.heap[k]? = some (.cells arr t) := fun k arr t hk ht =>
  (hg.block k (mem_lt hk) (fun x => own_other ho hk ht x.symm)).trans hk
theorem lowerLoops_any (p : Prg) (k : Int) (w : World) (sa ta : Option Addr) (sc tc : Nat) (hp : PrgAt w p sa ta) (hg : SignsIn w) (hk : isI64 k) :
    Calls Tryd.prog 4 #[p.val sa sc ta tc, .int .i64 k] w fun e w' => e = .returned (.bool true) ∧ Below w.heap.size w w' := by
  have htl := hp.2.1
  have HKK := Lib.hid hk
  have hk1 := hk.1
  have hk2 := hk.2
  obtain ⟨A0, h0⟩ : ∃ A0 : World, w.alloc (prgObj p sa sc ta tc) = A0 := ⟨_, rfl⟩
  have HB0 : Hid (Below w.heap.size w A0) := by show Below _ _ _; rw [← h0]; exact mem_alloc _ _
  have HX0 : Hid (A0.heap[w.heap.size]? = some (prgObj p sa sc ta tc)) := by show _ = _; rw [← h0]; exact mem_new _ _
  have HK : Hid (∀ w', Below A0.heap.size A0 w' → w'.heap[w.heap.size]? = some (prgObj p sa sc ta tc) ∧ PrgAt w' p sa ta ∧ Below w.heap.size w w' ∧ SignsIn w') := fun w' h =>
    ⟨mem_keep HX0.out h, hp.below (mem_then HB0.out h), mem_then HB0.out h, hg.below (mem_then HB0.out h)⟩
  clear hp hg hk
  go_enter Tryd.func4, Tryd.ntmps4
  go_wp2_with fail
  clear h0
  refine (lawake_any A0 (HK.out A0 (Below.refl _ _)).2.2.2).mono ?_
  rintro e w1 ⟨rfl, hB1⟩
  have HB1 := Lib.hid hB1
  have y0 : w1.cell? ⟨w.heap.size, 0, none⟩ = some (.slice sa p.shared.length sc) := mem_cell (HK.out w1 hB1).1 0
  have y1 : w1.cell? ⟨w.heap.size, 1, none⟩ = some (.slice ta p.tasks.length tc) := mem_cell (HK.out w1 hB1).1 1
  clear hB1
  go_wp2_with fail
  clear y0 y1
  refine (translated_fn p k w1 sa ta sc tc (HK.out w1 HB1.out).2.1 (HK.out w1 HB1.out).2.2.2 HKK.out).mono ?_
  rintro e w2 ⟨F, b, aa, ac, ba, bc, rfl, hfn, hB2, hyes⟩
  have HB2 := Lib.hid (mem_then HB1.out hB2)
  obtain ⟨an, hn1⟩ : ∃ n, F.arrays.length = n := ⟨_, rfl⟩
  obtain ⟨bn, hn2⟩ : ∃ n, F.blocks.length = n := ⟨_, rfl⟩
  have HNN : Hid (F.arrays.length = an ∧ F.blocks.length = bn) := ⟨hn1, hn2⟩
  simp only [hn1, hn2]
  obtain ⟨V, hV⟩ : ∃ X : World, w2.alloc (fnObj F.name F.regs (.slice aa an ac) (.slice ba bn bc)) = X := ⟨_, rfl⟩
  have HV0 : Hid (Below w2.heap.size w2 V) := by show Below _ _ _; rw [← hV]; exact mem_alloc _ _
  have HVX : Hid (V.heap[w2.heap.size]? = some (fnObj F.name F.regs (.slice aa an ac) (.slice ba bn bc))) := by show _ = _; rw [← hV]; exact mem_new _ _
  have HFN := Lib.hid (hfn.at_.below HV0.out)
  have HV := Lib.hid (mem_then HB2.out HV0.out)
  clear hfn hB2 hn1 hn2
  cases b with
  | false =>
    clear hyes
    go_wp2_with fail
    go_ret
    exact ⟨rfl, (HK.out V HV.out).2.2.1⟩
  | true =>
  obtain ⟨hok, ⟨hk0, hkl⟩, hF⟩ := hyes rfl
  have HOK := Lib.hid hok
  have HF := Lib.hid hF
  obtain ⟨j, rfl⟩ : ∃ j : Nat, k = (j : Int) := ⟨k.toNat, by omega⟩
  have hj : j < p.tasks.length := by omega
  have HJ := Lib.hid hj
  obtain ⟨tb, to', q, rfl, htc, htin⟩ := (HK.out V HV.out).2.1.2.2 j hj
  obtain ⟨t, ht⟩ : ∃ t, p.tasks.getD j Tsk.none = t := ⟨_, rfl⟩
  have HT := Lib.hid ht
  rw [ht] at htc htin
  have HTI := Lib.hid htin
  have htv := (prgOk_le (okP_ok HOK.out)).2.2 j hj
  rw [HT.out] at htv
  have HTV := Lib.hid htv
  obtain ⟨⟨g0, g1, g2, g3, g4, g5, g6, g7⟩, _⟩ := tsk_cells (Below.refl _ _) htc
  have y1 : V.cell? ⟨w.heap.size, 1, none⟩ = some (.slice (some ⟨tb, to', none⟩) p.tasks.length tc) := mem_cell (HK.out V HV.out).1 1
  obtain ⟨ti, hti, hz0, hz1, hz2⟩ := info_parts Tryd.infoPairL
  clear hyes hok hF htc htin ht htv
  go_wp2_with fail
  clear hV g0 g1 g2 g3 g4 g5 g6 g7 y1
  refine (loops_any t.body 0 V q.ka q.kc HTI.out.body (by have := (tskOk_le HTV.out).2.2; omega) (by have := (tskOk_le HTV.out).2.2; omega)).mono ?_
  rintro e w4 ⟨va, vc, rfl, hown, hB4⟩
  have HOWN := Lib.hid hown
  have HB40 := Lib.hid hB4
  have HB4 := Lib.hid (mem_then HV.out hB4)
  obtain ⟨L, hL⟩ : ∃ L, t.body.loops 0 = L := ⟨_, rfl⟩
  have HLE := Lib.hid hL
  have HLL : Hid ((t.body.loops 0).length ≤ 10000) := Nat.le_trans (Nat.le_trans (loops_len _ _) (tskOk_le HTV.out).2.2) (by decide)
  rw [hL] at HOWN HLL ⊢
  obtain ⟨n, hn⟩ : ∃ n, L.length = n := ⟨_, rfl⟩
  have HN := Lib.hid hn
  rw [hn] at HOWN HLL ⊢
  have hvn : n ≤ 10000 := HLL.out
  have HLF : Hid (F = lowFn p.shared t) := by show _ = _; rw [HF.out, Int.toNat_natCast, HT.out]
  have HPOS : Hid (∀ b x, F.blocks[b]? = some x → ∀ i z, x.code[i]? = some z → InsFine F.blocks b x i z) := by
    show ∀ b x, _
    rw [HLF.out]
    exact lowFn_pos p.shared t (tskOk_body HTV.out)
  have HTGT : Hid (∀ x ∈ F.blocks, x.kind = 1 → 0 ≤ x.to ∧ x.to < (F.blocks.length : Nat)) := by
    show ∀ x ∈ F.blocks, _
    rw [HLF.out]
    intro x hx hk
    rcases lowFn_tgt p.shared t (tskOk_body HTV.out) x hx with h | h
    · omega
    · exact h.2.1
  have HTOT : Hid ((limB F.blocks).length = n ∧ cB (opA 14) F.blocks = n ∧ cB (opA 13) F.blocks = n) := by
    show _ ∧ _ ∧ _
    have hb := tskOk_body HTV.out
    rw [HLF.out, limB_len, lowFn_many cnt_lim hb, lowFn_many cnt_inc hb, lowFn_many cnt_zero hb, HLE.out, HN.out]
    exact ⟨rfl, rfl, rfl⟩
  have HSAME : Hid (∀ q, (limB F.blocks).countP (fun x => decide (x = q)) = L.countP (fun x => decide (x = q))) := by
    show ∀ q, _
    rw [HLF.out, ← HLE.out]
    exact fun q => lowFn_limits (tskOk_body HTV.out) q
  have HXPOS : Hid (∀ b ∈ F.blocks, ∀ i ∈ b.code, i.op = 16 → 0 ≤ i.x) := by
    show ∀ b ∈ F.blocks, _
    rw [HLF.out]
    exact fun b hb i hi ho => lowFn_limit (tskOk_body HTV.out) hb hi ho
  obtain ⟨v0, v1, v2, v3, _⟩ := fn_four (mem_keep HVX.out hB4)
  have hbi : bn ≤ 9223372036854775807 := by rw [← HNN.out.2]; exact HFN.out.blocks.fits
  have HVF : Hid (∀ w', Below w4.heap.size w4 w' → (w'.cell? ⟨w2.heap.size, 0, none⟩ = some (.string F.name) ∧ w'.cell? ⟨w2.heap.size, 1, none⟩ = some (.int .i64 F.regs) ∧ w'.cell? ⟨w2.heap.size, 2, none⟩ = some (.slice aa an ac) ∧ w'.cell? ⟨w2.heap.size, 3, none⟩ = some (.slice ba bn bc)) ∧ FnAt w' F aa ba) := fun w' h => by
    obtain ⟨v0, v1, v2, v3, _⟩ := fn_four (mem_keep HVX.out (mem_then HB40.out h))
    exact ⟨⟨v0, v1, v2, v3⟩, HFN.out.below (mem_then HB40.out h)⟩
  clear hown hB4 hL hn
  go_wp2_with fail
  clear v0 v1 v2 v3
  go_loopw [8, 9, 10, 37] (fun lv cv zv iv wr => ∃ (a : Nat) (la : Option Addr) (lc : Nat), a ≤ bn ∧ lv = .slice la (limB (F.blocks.take a)).length lc ∧ cv = .int .i64 (cB (opA 14) (F.blocks.take a) : Nat) ∧ zv = .int .i64 (cB (opA 13) (F.blocks.take a) : Nat) ∧ iv = .int .i64 (a : Int) ∧ LimSt w4.heap.size w4 la lc (limB (F.blocks.take a)) wr) (fun _ _ _ iv _ => bn - (intOf iv).toNat)
  case atStart => exact ⟨0, none, 0, Nat.zero_le _, rfl, rfl, rfl, rfl, World.ownsRow_nil _ _ _ _, Below.refl _ _⟩
  case round =>
    obtain ⟨a, la, lc, ha, rfl, rfl, rfl, rfl, hst⟩ := hrel
    obtain ⟨wo, rfl⟩ : ∃ wo : World, wo = wr := ⟨_, rfl⟩
    have HST := Lib.hid hst
    have ha0 : (0 : Int) ≤ (a : Int) := by omega
    clear hst
    by_cases hat : a < bn
    · have HAT : Hid (a < bn) := hat
      have hat2 : (a : Int) < (bn : Int) := by omega
      obtain ⟨x, hx⟩ : ∃ x, F.blocks[a]? = some x := ⟨_, List.getElem?_eq_getElem (by rw [HNN.out.2]; exact hat)⟩
      have HX := Lib.hid hx
      rcases (HVF.out w4 (Below.refl _ _)).2.blocks.at_ with h0 | ⟨gb, go', rfl, hcs⟩
      · exfalso; rw [HNN.out.2] at h0; omega
      have HCS := Lib.hid hcs
      obtain ⟨ca, cc, ⟨e0, e1, e2, e3, e4⟩, hcode⟩ := hcs a x hx
      have c0 := cell_below HST.out.2 e0
      have c1 := cell_below HST.out.2 e1
      have c2 := cell_below HST.out.2 e2
      have c3 := cell_below HST.out.2 e3
      have c4 := cell_below HST.out.2 e4
      clear e0 e1 e2 e3 e4
      obtain ⟨nc, hnc⟩ : ∃ k, x.code.length = k := ⟨_, rfl⟩
      have HNC := Lib.hid hnc
      rw [hnc] at c0
      obtain ⟨D, hD⟩ : ∃ D : World, wo.alloc (.cells #[.slice ca nc cc, .int .u8 x.kind, .int .i64 x.x, .int .i64 x.to, .int .i64 x.els] 46) = D := ⟨_, rfl⟩
      have hBD : Below wo.heap.size wo D := by rw [← hD]; exact mem_alloc _ _
      have hXD : D.heap[wo.heap.size]? = some (.cells #[.slice ca nc cc, .int .u8 x.kind, .int .i64 x.x, .int .i64 x.to, .int .i64 x.els] 46) := by rw [← hD]; exact mem_new _ _
      have d0 : D.cell? ⟨wo.heap.size, 0, none⟩ = some (.slice ca nc cc) := mem_cell hXD 0
      have HXD := Lib.hid hXD
      have HSD := Lib.hid (HST.out.keep hBD)
      have HCODE := Lib.hid hcode
      have hci : nc ≤ 9223372036854775807 := by rw [← hnc]; exact hcode.fits
      have HSD0 : Hid (LimSt w4.heap.size w4 la lc (limB (F.blocks.take a) ++ limI (x.code.take 0)) D) := by
        show LimSt _ _ _ _ _ _
        rw [show limI (x.code.take 0) = [] from rfl, List.append_nil]
        exact HSD.out
      have HLEN0 : Hid ((limB (F.blocks.take a)).length = (limB (F.blocks.take a) ++ limI (x.code.take 0)).length) := by show _ = _; rw [show limI (x.code.take 0) = [] from rfl, List.append_nil]
      have HWR : Hid (w4.heap.size ≤ wo.heap.size) := HST.out.2.size
      clear hx hcs hcode hnc hBD hXD hat HST
      go_wp2_with fail
      clear c0 c1 c2 c3 c4 d0 hD
      rw [HLEN0.out]
      go_loopw [8, 9, 10, 45] (fun lv cv zv iv wx => ∃ (m : Nat) (la : Option Addr) (lc : Nat), m ≤ nc ∧ lv = .slice la (limB (F.blocks.take a) ++ limI (x.code.take m)).length lc ∧ cv = .int .i64 (cB (opA 14) (F.blocks.take a) + (x.code.take m).countP (opA 14) : Nat) ∧ zv = .int .i64 (cB (opA 13) (F.blocks.take a) + (x.code.take m).countP (opA 13) : Nat) ∧ iv = .int .i64 (m : Int) ∧ LimSt w4.heap.size w4 la lc (limB (F.blocks.take a) ++ limI (x.code.take m)) wx ∧ wx.heap[wo.heap.size]? = some (.cells #[.slice ca nc cc, .int .u8 x.kind, .int .i64 x.x, .int .i64 x.to, .int .i64 x.els] 46)) (fun _ _ _ iv _ => nc - (intOf iv).toNat)
      case atStart => exact ⟨0, la, lc, Nat.zero_le _, rfl, rfl, rfl, rfl, HSD0.out, HXD.out⟩
      case round =>
        obtain ⟨m, la, lc, hm, rfl, rfl, rfl, rfl, hst, hxd⟩ := hrel
        have HXR := Lib.hid hxd
        have HST := Lib.hid hst
        have hm0 : (0 : Int) ≤ (m : Int) := by omega
        have HB4R := Lib.hid hst.2
        clear hst hxd
        by_cases hmt : m < nc
        · have HMT : Hid (m < nc) := hmt
          have hmt2 : (m : Int) < (nc : Int) := by omega
          obtain ⟨c, hc⟩ : ∃ c, x.code[m]? = some c := ⟨_, List.getElem?_eq_getElem (by rw [HNC.out]; exact hmt)⟩
          have HC := Lib.hid hc
          have HWF := Lib.hid (HCODE.out.wf c (List.mem_of_getElem? hc))
          rcases HCODE.out.at_ with h0 | ⟨gc, gf, rfl, hcz⟩
          · exfalso; rw [HNC.out] at h0; omega
          obtain ⟨e0, e1, e2, e3, e4, e5⟩ := hcz m c hc
          have c0 := cell_below HB4R.out e0
          have c1 := cell_below HB4R.out e1
          have c2 := cell_below HB4R.out e2
          have c3 := cell_below HB4R.out e3
          have c4 := cell_below HB4R.out e4
          have c5 := cell_below HB4R.out e5
          obtain ⟨E, hE⟩ : ∃ E : World, wr.alloc (.cells #[.int .u8 c.op, .int .i64 c.dst, .int .i64 c.x, .int .i64 c.y, .int .i64 c.imm, .string c.sym] 48) = E := ⟨_, rfl⟩
          have hBE : Below wr.heap.size wr E := by rw [← hE]; exact mem_alloc _ _
          have hXE : E.heap[wr.heap.size]? = some (.cells #[.int .u8 c.op, .int .i64 c.dst, .int .i64 c.x, .int .i64 c.y, .int .i64 c.imm, .string c.sym] 48) := by rw [← hE]; exact mem_new _ _
          have HXE := Lib.hid hXE
          have b0 : E.cell? ⟨wr.heap.size, 0, none⟩ = some (.int .u8 c.op) := mem_cell hXE 0
          have HSE := Lib.hid (HST.out.keep hBE)
          have HXRE := Lib.hid (mem_keep HXR.out hBE)
          have HB4E := Lib.hid (mem_then HB4R.out hBE)
          have HN14 := Lib.hid (code_next (f := opA 14) hc)
          have HN13 := Lib.hid (code_next (f := opA 13) hc)
          have HFINE := Lib.hid (HPOS.out a x HX.out m c hc)
          have HTA : Hid ((limB (F.blocks.take a) ++ limI (x.code.take m)).length ≤ 10000 ∧ cB (opA 14) (F.blocks.take a) + (x.code.take m).countP (opA 14) ≤ 10000 ∧ cB (opA 13) (F.blocks.take a) + (x.code.take m).countP (opA 13) ≤ 10000) := by
            show _ ∧ _ ∧ _
            have h1 := HTOT.out
            rw [limB_len] at h1
            rw [List.length_append, limB_len, limI_len]
            have k1 := cB_at (f := opA 16) (m := m) HX.out
            have k2 := cB_at (f := opA 14) (m := m) HX.out
            have k3 := cB_at (f := opA 13) (m := m) HX.out
            omega
          obtain ⟨P, hP⟩ : ∃ P, limB (F.blocks.take a) ++ limI (x.code.take m) = P := ⟨_, rfl⟩
          have HP := Lib.hid hP
          rw [hP] at HSE HTA ⊢
          obtain ⟨pn, hpn⟩ : ∃ k, P.length = k := ⟨_, rfl⟩
          have HPN := Lib.hid hpn
          have HOP : Hid (E.ownsRow w4.heap.size 49 2 (.slice la pn lc) pn (P.flatMap pairC)) := by show World.ownsRow _ _ _ _ _ _ _; rw [← hpn]; exact HSE.out.1
          rw [hpn] at HTA ⊢
          obtain ⟨ci, hci1⟩ : ∃ k, cB (opA 14) (F.blocks.take a) + (x.code.take m).countP (opA 14) = k := ⟨_, rfl⟩
          obtain ⟨cz, hcz1⟩ : ∃ k, cB (opA 13) (F.blocks.take a) + (x.code.take m).countP (opA 13) = k := ⟨_, rfl⟩
          have HCI := Lib.hid (And.intro hci1 hcz1)
          rw [hci1, hcz1] at HTA ⊢
          have hpb := HTA.out.1
          have hcb := HTA.out.2.1
          have hzb := HTA.out.2.2
          clear hc hcz e0 e1 e2 e3 e4 e5 hBE hXE hmt HST hP hpn hci1 hcz1 HSE
          by_cases k16 : c.op = 16
          · have K16 := Lib.hid k16
            have k16d : (c.op == 16) = true := by simpa using k16
            have k14d : (c.op == 14) = false := by simp [k16]
            have k13d : (c.op == 13) = false := by simp [k16]
            obtain ⟨hm00, hcl⟩ := HFINE.out.1 k16
            have HCL := Lib.hid hcl
            have HXX := Lib.hid (HXPOS.out x (List.mem_of_getElem? HX.out) c (List.mem_of_getElem? HC.out) k16)
            have b2 : E.cell? ⟨wr.heap.size, 2, none⟩ = some (.int .i64 c.x) := mem_cell HXE.out 2
            have b4 : E.cell? ⟨wr.heap.size, 4, none⟩ = some (.int .i64 c.imm) := mem_cell HXE.out 4
            have HM0 := Lib.hid hm00
            clear k16 hcl hm00
            go_upto_region 17 with fail
            clear c0 c1 c2 c3 c4 c5 hE
            go_wp2_with (at_builtin; refine wpList_append_src _ rfl (.tmp 54) (.tmp 60) 42 rfl w4.heap.size 49 ti _ 2 16 Tryd.underlying42 hti hz0 hz1 hz2 rfl (by decide) (.slice la pn lc) pn (P.flatMap pairC) rfl (own_below HOP.out (mem_alloc _ _)) (some ⟨E.heap.size, 0, none⟩) 1 1 [.int .i64 c.x, .int .i64 c.imm] rfl (one_src (cs := [.int .i64 c.x, .int .i64 c.imm]) (n := 1) (mem_new _ _) rfl) (by simp [Value.oneCell']) (by unfold maxLen; omega) (by omega) (mem_then HB4E.out (mem_alloc _ _)).size ?_)
            intro v9 w9 hown9 hgrow9 _
            obtain ⟨A9, c9, rfl⟩ := own_val hown9
            have HBA : Hid (Below w4.heap.size w4 w9) := (mem_then HB4E.out (mem_alloc _ _)).grown hgrow9 (mem_then HB4E.out (mem_alloc _ _)).size (fun k hk => (own_lt HOP.out hk).1)
            have HLX : Hid (limB (F.blocks.take a) ++ limI (x.code.take (m + 1)) = P ++ [pairI c]) := by show _ = _; rw [limI_yes HC.out K16.out, ← HP.out, List.append_assoc]
            have HRX : Hid (w9.ownsRow w4.heap.size 49 2 (.slice A9 (pn + 1) c9) (pn + 1) ((P ++ [pairI c]).flatMap pairC)) := by
              show World.ownsRow _ _ _ _ _ _ _
              rw [flat_snoc, show pairC (pairI c) = [.int .i64 c.x, .int .i64 c.imm] from by unfold pairC pairI; rw [Int.toNat_of_nonneg HXX.out]]
              exact hown9
            have HCX : Hid (cB (opA 14) (F.blocks.take a) + (x.code.take (m + 1)).countP (opA 14) = ci ∧ cB (opA 13) (F.blocks.take a) + (x.code.take (m + 1)).countP (opA 13) = cz) := by
              show _ ∧ _
              rw [HN14.out, HN13.out, ← HCI.out.1, ← HCI.out.2]
              simp [opA, K16.out]
            have HX9 : Hid (w9.heap[wo.heap.size]? = some (.cells #[.slice (some ⟨gc, gf, none⟩) nc cc, .int .u8 x.kind, .int .i64 x.x, .int .i64 x.to, .int .i64 x.els] 46)) := grown_apart (own_below HOP.out (mem_alloc _ _)) hgrow9 _ _ _ (mem_keep HXRE.out (mem_alloc _ _)) (by decide)
            have hE9 := grown_apart (own_below HOP.out (mem_alloc _ _)) hgrow9 _ _ _ (mem_keep HXE.out (mem_alloc _ _)) (by decide)
            have q2 : w9.cell? ⟨wr.heap.size, 2, none⟩ = some (.int .i64 c.x) := mem_cell hE9 2
            obtain ⟨⟨v0, v1, v2, v3⟩, _⟩ := HVF.out w9 HBA.out
            have hmd : ((m : Int) != 0) = false := by rw [HM0.out]; rfl
            have hq := closed_any F a c.x w9 aa (some ⟨gb, go', none⟩) ac bc (HVF.out w9 HBA.out).2 HTGT.out HCL.out
            rw [HNN.out.1, HNN.out.2] at hq
            have HQ := Lib.hid hq
            clear hown9 hgrow9 hE9 b0 b2 b4 hq
            go_wp2_with fail
            refine HQ.out.mono ?_
            rintro e w10 ⟨rfl, hB10⟩
            have HS10 : Hid (LimSt w4.heap.size w4 A9 c9 (P ++ [pairI c]) w10 ∧ w10.heap[wo.heap.size]? = some (.cells #[.slice (some ⟨gc, gf, none⟩) nc cc, .int .u8 x.kind, .int .i64 x.x, .int .i64 x.to, .int .i64 x.els] 46)) := by
              refine ⟨⟨?_, HBA.out.trans (hB10.mono HBA.out.size)⟩, mem_keep HX9.out hB10⟩
              rw [List.length_append, HPN.out]
              exact own_below HRX.out hB10
            clear hB10 q2 v0 v1 v2 v3 HQ
            go_wp2_with fail
            go_roundw
            case rel => exact ⟨m + 1, A9, c9, by have := HMT.out; omega, by rw [HLX.out, List.length_append, HPN.out]; rfl, by rw [HCX.out.1], by rw [HCX.out.2], by go_num, by rw [HLX.out]; exact HS10.out.1, HS10.out.2⟩
            case measure => have := HMT.out; simp [intOf]; omega
          have k16d : (c.op == 16) = false := by simpa using k16
          have HLX : Hid (limB (F.blocks.take a) ++ limI (x.code.take (m + 1)) = P) := by show _ = _; rw [limI_no HC.out k16, HP.out]
          have HSX : Hid (LimSt w4.heap.size w4 la lc P E) := ⟨by rw [HPN.out]; exact HOP.out, HB4E.out⟩
          clear k16
          by_cases k14 : c.op = 14
          · have K14 := Lib.hid k14
            have k14d : (c.op == 14) = true := by simpa using k14
            have k13d : (c.op == 13) = false := by simp [k14]
            obtain ⟨hm1, hxk, hb, hhb, hbk⟩ := HFINE.out.2 k14
            have HBK := Lib.hid hbk
            obtain ⟨ht0, htl⟩ := HTGT.out x (List.mem_of_getElem? HX.out) hxk
            obtain ⟨tn, htn⟩ : ∃ k : Nat, x.to = (k : Int) := ⟨x.to.toNat, by omega⟩
            have htnl : tn < bn := by rw [HNN.out.2] at htl; omega
            rw [htn, Int.toNat_natCast] at hhb
            obtain ⟨ha', hcc, ⟨f0, f1, f2, f3, f4⟩, _⟩ := HCS.out tn hb hhb
            rw [hbk] at f1
            have h1 := cell_below HB4E.out f1
            have hx' := HXRE.out
            rw [htn, hxk] at hx'
            have x0 : E.cell? ⟨wo.heap.size, 0, none⟩ = some (.slice (some ⟨gc, gf, none⟩) nc cc) := mem_cell hx' 0
            have x1 : E.cell? ⟨wo.heap.size, 1, none⟩ = some (.int .u8 1) := mem_cell hx' 1
            have x3 : E.cell? ⟨wo.heap.size, 3, none⟩ = some (.int .i64 (tn : Int)) := mem_cell hx' 3
            obtain ⟨⟨v0, v1, v2, v3⟩, _⟩ := HVF.out E HB4E.out
            have htnl2 : (tn : Int) < (bn : Int) := by omega
            have htn0 : (0 : Int) ≤ (tn : Int) := by omega
            have hmd : ((m : Int) != (nc : Int) - 1) = false := by
              have e : (m : Int) = (nc : Int) - 1 := by have := HNC.out; omega
              rw [← e]; simp
            have HCX : Hid (cB (opA 14) (F.blocks.take a) + (x.code.take (m + 1)).countP (opA 14) = ci + 1 ∧ cB (opA 13) (F.blocks.take a) + (x.code.take (m + 1)).countP (opA 13) = cz) := by
              show _ ∧ _
              rw [HN14.out, HN13.out, ← HCI.out.1, ← HCI.out.2]
              simp [opA, K14.out, Nat.add_assoc]
            clear k14 hm1 hxk hhb hbk ht0 htl htn f0 f1 f2 f3 f4 hx'
            go_wp2_with fail
            clear c0 c1 c2 c3 c4 c5 hE b0 h1 x0 x1 x3 v0 v1 v2 v3
            go_roundw
            case rel => exact ⟨m + 1, la, lc, by have := HMT.out; omega, by rw [HLX.out, HPN.out], by rw [HCX.out.1]; go_num, by rw [HCX.out.2], by go_num, by rw [HLX.out]; exact HSX.out, HXRE.out⟩
            case measure => have := HMT.out; simp [intOf]; omega
          have k14d : (c.op == 14) = false := by simpa using k14
          by_cases k13 : c.op = 13
          · have k13d : (c.op == 13) = true := by simpa using k13
            have HCX : Hid (cB (opA 14) (F.blocks.take a) + (x.code.take (m + 1)).countP (opA 14) = ci ∧ cB (opA 13) (F.blocks.take a) + (x.code.take (m + 1)).countP (opA 13) = cz + 1) := by
              show _ ∧ _
              rw [HN14.out, HN13.out, ← HCI.out.1, ← HCI.out.2]
              simp [opA, k13, Nat.add_assoc]
            clear k13 k14
            go_wp2_with fail
            clear c0 c1 c2 c3 c4 c5 hE b0
            go_roundw
            case rel => exact ⟨m + 1, la, lc, by have := HMT.out; omega, by rw [HLX.out, HPN.out], by rw [HCX.out.1], by rw [HCX.out.2]; go_num, by go_num, by rw [HLX.out]; exact HSX.out, HXRE.out⟩
            case measure => have := HMT.out; simp [intOf]; omega
          have k13d : (c.op == 13) = false := by simpa using k13
          have HCX : Hid (cB (opA 14) (F.blocks.take a) + (x.code.take (m + 1)).countP (opA 14) = ci ∧ cB (opA 13) (F.blocks.take a) + (x.code.take (m + 1)).countP (opA 13) = cz) := by
            show _ ∧ _
            rw [HN14.out, HN13.out, ← HCI.out.1, ← HCI.out.2]
            simp [opA, k13, k14]
          clear k13 k14
          go_wp2_with fail
          clear c0 c1 c2 c3 c4 c5 hE b0
          go_roundw
          case rel => exact ⟨m + 1, la, lc, by have := HMT.out; omega, by rw [HLX.out, HPN.out], by rw [HCX.out.1], by rw [HCX.out.2], by go_num, by rw [HLX.out]; exact HSX.out, HXRE.out⟩
          case measure => have := HMT.out; simp [intOf]; omega
        · obtain rfl : m = nc := by omega
          have HTK : Hid (x.code.take m = x.code) := by show _ = _; rw [← HNC.out, List.take_length]
          have HSX : Hid (LimSt w4.heap.size w4 la lc (limB (F.blocks.take (a + 1))) wr) := by
            have h9 := HST.out
            rw [HTK.out] at h9
            show LimSt _ _ _ _ _ _
            rw [limB_next HX.out]
            exact h9
          have HLX : Hid (limB (F.blocks.take a) ++ limI (x.code.take m) = limB (F.blocks.take (a + 1))) := by show _ = _; rw [limB_next HX.out, HTK.out]
          have HCX : Hid (cB (opA 14) (F.blocks.take a) + (x.code.take m).countP (opA 14) = cB (opA 14) (F.blocks.take (a + 1)) ∧ cB (opA 13) (F.blocks.take a) + (x.code.take m).countP (opA 13) = cB (opA 13) (F.blocks.take (a + 1))) := by
            show _ ∧ _
            rw [cB_next HX.out, cB_next HX.out, HTK.out]
            exact ⟨rfl, rfl⟩
          clear hmt
          go_wp2_with fail
          go_roundw
          case rel => exact ⟨a + 1, la, lc, by have := HAT.out; omega, by rw [HLX.out], by rw [HCX.out.1], by rw [HCX.out.2], by go_num, HSX.out⟩
          case measure => have := HAT.out; simp [intOf]; omega
    · obtain rfl : a = bn := by omega
      have HTK : Hid (F.blocks.take a = F.blocks) := by show _ = _; rw [← HNN.out.2, List.take_length]
      have HEND := Lib.hid HST.out
      rw [HTK.out] at HEND
      rw [HTK.out]
      obtain ⟨M, hM⟩ : ∃ M, limB F.blocks = M := ⟨_, rfl⟩
      have HME := Lib.hid hM
      rw [hM] at HEND ⊢
      have HML : Hid (M.length = n) := by show _ = _; rw [← HME.out]; exact HTOT.out.1
      have HMO : Hid (wo.ownsRow w4.heap.size 49 2 (.slice la n lc) n (M.flatMap pairC)) := by show World.ownsRow _ _ _ _ _ _ _; rw [← HML.out]; exact HEND.out.1
      have HBE := Lib.hid HEND.out.2
      have HPM : Hid (PairsAt wo la M) := pairs_own HMO.out HML.out (by omega)
      have HPL : Hid (PairsAt wo va L) := pairs_own (own_below (own_below HOWN.out (Below.refl _ _)) HBE.out) HN.out (by omega)
      rw [HML.out, HTOT.out.2.1, HTOT.out.2.2]
      clear hM hat HST HEND
      go_wp2_with fail
      go_loopw [122] (fun iv wx => ∃ d : Nat, d ≤ n ∧ iv = .int .i64 (d : Int) ∧ Below wo.heap.size wo wx) (fun iv _ => n - (intOf iv).toNat)
      case atStart => exact ⟨0, Nat.zero_le _, rfl, Below.refl _ _⟩
      case round =>
        obtain ⟨d, hd, rfl, hB⟩ := hrel
        have HB := Lib.hid hB
        have hd0 : (0 : Int) ≤ (d : Int) := by omega
        by_cases hlt : d < n
        · have HDT : Hid (d < n) := hlt
          have hdt2 : (d : Int) < (n : Int) := by omega
          obtain ⟨x, hx⟩ : ∃ x, L[d]? = some x := ⟨_, List.getElem?_eq_getElem (by rw [HN.out]; exact hlt)⟩
          obtain ⟨xb, xo, rfl, e0, e1⟩ := HPL.out.2 d x hx
          have c0 := cell_below hB e0
          have c1 := cell_below hB e1
          obtain ⟨x1, x2⟩ := x
          have c0 : wr.cell? ⟨xb, xo + d * 2, none⟩ = some (.int .i64 (x1 : Nat)) := c0
          have c1 : wr.cell? ⟨xb, xo + d * 2 + 1, none⟩ = some (.int .i64 x2) := c1
          obtain ⟨Y, hY⟩ : ∃ Y : World, wr.alloc (.cells #[.int .i64 (x1 : Nat), .int .i64 x2] 49) = Y := ⟨_, rfl⟩
          have HBY : Hid (Below wr.heap.size wr Y) := by show Below _ _ _; rw [← hY]; exact mem_alloc _ _
          have hXY : Y.heap[wr.heap.size]? = some (.cells #[.int .i64 (x1 : Nat), .int .i64 x2] 49) := by rw [← hY]; exact mem_new _ _
          have HXY := Lib.hid hXY
          have HC1 : Hid (∀ w', Below Y.heap.size Y w' → Calls Tryd.prog 13 #[.slice la n lc, .agg #[.int .i64 (x1 : Nat), .int .i64 x2]] w' fun e w'' => e = .returned (.int .i64 (L.countP (fun x => decide (x = (x1, x2))) : Nat)) ∧ Below w'.heap.size w' w'') := fun w' h => by
            have h9 := count_any M x1 x2 w' la lc (((HPM.out.below HB.out).below HBY.out).below h)
            rw [HML.out, ← HME.out, HSAME.out] at h9
            exact h9
          have HC2 : Hid (∀ w', Below Y.heap.size Y w' → Calls Tryd.prog 13 #[.slice (some ⟨xb, xo, none⟩) n vc, .agg #[.int .i64 (x1 : Nat), .int .i64 x2]] w' fun e w'' => e = .returned (.int .i64 (L.countP (fun x => decide (x = (x1, x2))) : Nat)) ∧ Below w'.heap.size w' w'') := fun w' h => by
            have h9 := count_any L x1 x2 w' (some ⟨xb, xo, none⟩) vc (((HPL.out.below HB.out).below HBY.out).below h)
            rw [HN.out] at h9
            exact h9
          obtain ⟨kk, hkk⟩ : ∃ k, L.countP (fun x => decide (x = (x1, x2))) = k := ⟨_, rfl⟩
          rw [hkk] at HC1 HC2
          clear hB hx e0 e1 hXY hlt hkk
          go_upto_region 33 with fail
          clear c0 c1 hY
          have HBD : Hid (Below Y.heap.size Y Y.drew) := (Below.refl _ _).drew
          refine wp_region_held_drew (S := fun w' => Below Y.heap.size Y w') (by kernel_rfl) HBD.out (fun hHeld => ?_)
          generalize hwd : World.drew Y = D at hHeld HBD ⊢
          clear hwd
          refine wpAnyH_take (i := 0) (v := .slice la n lc) rfl (by kernel_rfl) (by kernel_rfl) (by kernel_rfl) (fun _ _ _ h => h) (Or.inl ⟨by rfl, ?_⟩) (by assumption) ?_
          · intro w' hSw; go_simp
          (try simp only [Act.put, List.getElem_toArray, List.getElem_cons_zero, List.setIfInBounds_toArray, List.set_cons_zero, List.set_cons_succ])
          refine wpAnyH_take (i := 1) (v := .agg #[.int .i64 (x1 : Nat), .int .i64 x2]) rfl (by kernel_rfl) (by kernel_rfl) (by kernel_rfl) (fun _ _ _ h => h) (Or.inl ⟨by rfl, ?_⟩) (by assumption) ?_
          · intro w' hSw; have q0 := mem_cell (mem_keep HXY.out hSw) 0; have q1 := mem_cell (mem_keep HXY.out hSw) 1; simp only [List.getElem?_toArray, List.getElem?_cons_zero, List.getElem?_cons_succ] at q0 q1; go_simp
          (try simp only [Act.put, List.getElem_toArray, List.getElem_cons_zero, List.getElem_cons_succ, List.setIfInBounds_toArray, List.set_cons_zero, List.set_cons_succ])
          refine wpAnyH_take (i := 3) (v := .slice (some ⟨xb, xo, none⟩) n vc) rfl (by kernel_rfl) (by kernel_rfl) (by kernel_rfl) (fun _ _ _ h => h) (Or.inl ⟨by rfl, ?_⟩) (by assumption) ?_
          · intro w' hSw; go_simp
          (try simp only [Act.put, List.getElem_toArray, List.getElem_cons_zero, List.getElem_cons_succ, List.setIfInBounds_toArray, List.set_cons_zero, List.set_cons_succ])
          refine wpAnyH_take (i := 4) (v := .agg #[.int .i64 (x1 : Nat), .int .i64 x2]) rfl (by kernel_rfl) (by kernel_rfl) (by kernel_rfl) (fun _ _ _ h => h) (Or.inl ⟨by rfl, ?_⟩) (by assumption) ?_
          · intro w' hSw; have q0 := mem_cell (mem_keep HXY.out hSw) 0; have q1 := mem_cell (mem_keep HXY.out hSw) 1; simp only [List.getElem?_toArray, List.getElem?_cons_zero, List.getElem?_cons_succ] at q0 q1; go_simp
          (try simp only [Act.put, List.getElem_toArray, List.getElem_cons_zero, List.getElem_cons_succ, List.setIfInBounds_toArray, List.set_cons_zero, List.set_cons_succ])
          have H1 := Lib.hid (HC1.out D HBD.out)
          refine wpAnyH_ready (rs := [2]) (by kernel_rfl) (by simp) (AllReadyH.cons rfl (fun K hK => ?_) AllReadyH.nil)
          go_simp
          refine H1.out.mono ?_
          rintro e w8 ⟨rfl, hB8⟩
          have HB8 := Lib.hid (mem_then HBD.out hB8)
          clear hB8 H1
          refine hK.out _ _ (HB8.out) (fun hHeld => ?_)
          clear hK K
          rename_i hOld
          clear hOld
          (try simp only [Act.put, List.getElem_toArray, List.getElem_cons_zero, List.getElem_cons_succ, List.setIfInBounds_toArray, List.set_cons_zero, List.set_cons_succ])
          have H2 := Lib.hid (HC2.out w8 HB8.out)
          refine wpAnyH_ready (rs := [5]) (by kernel_rfl) (by simp) (AllReadyH.cons rfl (fun K hK => ?_) AllReadyH.nil)
          go_simp
          refine H2.out.mono ?_
          rintro e w9 ⟨rfl, hB9⟩
          have HB9 := Lib.hid (mem_then HB8.out hB9)
          have HB9' := Lib.hid (mem_then HB.out (mem_then HBY.out HB9.out))
          clear hB9 H2
          refine hK.out _ _ (HB9.out) (fun hHeld => ?_)
          clear hK K
          rename_i hOld
          clear hOld
          (try simp only [Act.put, List.getElem_toArray, List.getElem_cons_zero, List.getElem_cons_succ, List.setIfInBounds_toArray, List.set_cons_zero, List.set_cons_succ])
          refine wpAnyH_take (i := 6) (v := .bool false) rfl (by kernel_rfl) (by kernel_rfl) (by kernel_rfl) (fun _ _ _ h => h) (Or.inl ⟨by rfl, ?_⟩) (by assumption) ?_
          · intro w' hSw; go_simp
          (try simp only [Act.put, List.getElem_toArray, List.getElem_cons_zero, List.getElem_cons_succ, List.setIfInBounds_toArray, List.set_cons_zero, List.set_cons_succ])
          refine wpAnyH_done (by kernel_rfl) ?_ _
          clear hHeld
          go_wp2_with fail
          go_roundw
          case rel => exact ⟨d + 1, by have := HDT.out; omega, by go_num, HB9'.out⟩
          case measure => have := HDT.out; simp [intOf]; omega
        · obtain rfl : d = n := by omega
          clear hlt
          go_wp2_with fail
          go_ret
          exact ⟨rfl, (HK.out wr (mem_then HB4.out (mem_then HBE.out HB.out))).2.2.1⟩
end Go.Proofs.YtkpdngfkdmllkaaDoor

/-
  A node that reads as data lies in memory as a tree.
-/
namespace Go.Proofs.YtkpdngfkdmllkaaDoor
set_option linter.unusedVariables false
set_option linter.unusedSimpArgs false
open Go.ChangeShapes Go.WideShapes Go.ChangeAt Go.RowKit

theorem cellsNode : Tryd.prog.cellsOf 35 = 4 := by kernel_rfl
theorem cellsNode0 : Tryd.prog.cellsOf 5 = 1 := by kernel_rfl
theorem cellsNode1 : Tryd.prog.cellsOf 3 = 1 := by kernel_rfl
theorem cellsNode2 : Tryd.prog.cellsOf 9 = 1 := by kernel_rfl
theorem cellsNode3 : Tryd.prog.cellsOf 33 = 1 := by kernel_rfl

theorem list4 {l : List Value} (h : l.length = 4) : ∃ a b c d, l = [a, b, c, d] := by
  match l, h with
  | [a, b, c, d], _ => exact ⟨a, b, c, d, rfl⟩

theorem le_max {n : Nat} (h : n ≤ maxLen) : n ≤ 9223372036854775807 := by unfold maxLen at h; omega

section
variable {H : Type} {enc : TypeId × Value → H} {w : World} {base : Nat} {sp : Nat → Bool} {held : Bool}
theorem tree_open (fuel : Nat) : ∀ (cs : List Value) (x : DataW H × List MemPlace), DataW.trod enc Tryd.prog w base sp held fuel 35 cs = some x →
    ∃ (t : Tree) (a : Option Addr) (c : Nat), cs = [.int .u8 t.kind, .int .i64 t.num, .string t.name, .slice a t.len c] ∧ Rep w t a := by
  induction fuel with
  | zero => intro cs x h; simp [DataW.trod] at h
  | succ fuel ih =>
    intro cs x h
    obtain ⟨xs, n, hn, rfl, hl, hxl, hf⟩ := DataW.trod_struct Tryd.underlying35 h
    obtain rfl : fuel = n := by omega
    rw [cellsNode] at hl
    obtain ⟨c0, c1, c2, c3, rfl⟩ := list4 hl
    match xs, hxl with
    | [y0, y1, y2, y3], _ =>
      have h0 : DataW.trod enc Tryd.prog w base sp held fuel 5 (([c0, c1, c2, c3].drop 0).take (Tryd.prog.cellsOf 5)) = [y0, y1, y2, y3][0]? := hf 0 _ rfl
      have h1 : DataW.trod enc Tryd.prog w base sp held fuel 3 (([c0, c1, c2, c3].drop 1).take (Tryd.prog.cellsOf 3)) = [y0, y1, y2, y3][1]? := hf 1 _ rfl
      have h2 : DataW.trod enc Tryd.prog w base sp held fuel 9 (([c0, c1, c2, c3].drop 2).take (Tryd.prog.cellsOf 9)) = [y0, y1, y2, y3][2]? := hf 2 _ rfl
      have h3 : DataW.trod enc Tryd.prog w base sp held fuel 33 (([c0, c1, c2, c3].drop 3).take (Tryd.prog.cellsOf 33)) = [y0, y1, y2, y3][3]? := hf 3 _ rfl
      rw [cellsNode0] at h0
      rw [cellsNode1] at h1
      rw [cellsNode2] at h2
      rw [cellsNode3] at h3
      simp only [List.drop_zero, List.drop_succ_cons, List.take_succ_cons, List.take_zero, List.getElem?_cons_zero, List.getElem?_cons_succ] at h0 h1 h2 h3
      obtain ⟨k, hk, _, wk⟩ := DataW.trod_int Tryd.underlying5 h0
      obtain ⟨m, hm, _, wm⟩ := DataW.trod_int Tryd.underlying3 h1
      obtain ⟨s, hs, _, ws⟩ := DataW.trod_string Tryd.underlying9 h2
      cases hk; cases hm; cases hs
      have bk : 0 ≤ k ∧ k ≤ 255 := by simpa [Lit.wf, IntKind.min, IntKind.max, IntKind.signed, IntKind.bits] using wk
      have bm : -9223372036854775808 ≤ m ∧ m ≤ 9223372036854775807 := by simpa [Lit.wf, IntKind.min, IntKind.max, IntKind.signed, IntKind.bits] using wm
      have ws' : s.size ≤ 9223372036854775807 := le_max ws
      clear ws
      rcases DataW.trod_slice Tryd.underlying33 h3 with ⟨h4, _⟩ | ⟨a, len, cap, elems, rest, n', hn', h4, _, hb, hlc, hcm, hel, hel2, _, _⟩
      · cases h4
        exact ⟨Tree.leaf k m s, none, 0, rfl, Rep.mk ⟨bk, bm, ws', Nat.zero_le _⟩ (.inl rfl)⟩
      · cases h4
        have hcm' : cap ≤ 9223372036854775807 := le_max hcm
        clear hcm
        obtain rfl : fuel = n' + 1 := hn'
        have hspot : 0 < len → a.spot = none := by
          intro h0
          have hi2 := hel2 0 h0
          rw [Nat.zero_mul, cellsNode] at hi2
          obtain ⟨y, hy⟩ : ∃ y, elems[0]? = some y := ⟨_, List.getElem?_eq_getElem (by omega)⟩
          rw [hy] at hi2
          obtain ⟨cs', hc1, hc2⟩ := Option.bind_eq_some_iff.1 hi2
          obtain ⟨t, ai, ci, rfl, hr⟩ := ih _ _ (DataW.trod_succ _ _ _ _ hc2)
          obtain ⟨_, _, hcs⟩ := World.cells?_some hc1
          have e0 := hcs 0 (by omega)
          have h9 : (a.add 0).add 0 = a := by simp [Addr.add]
          rw [h9] at e0
          cases hq : a.spot with
          | none => rfl
          | some q =>
            unfold World.cell? at e0
            rw [hq] at e0
            split at e0 <;> simp at e0
        have each : ∀ i, ∃ (t : Tree), i < len → ∃ (ai : Option Addr) (ci : Nat), NodeAt w a.block (a.off + i * 4) t ai ci ∧ Rep w t ai := by
          intro i
          by_cases hi : i < len
          · have hi2 := hel2 i hi
            rw [cellsNode] at hi2
            obtain ⟨y, hy⟩ : ∃ y, elems[i]? = some y := ⟨_, List.getElem?_eq_getElem (by omega)⟩
            rw [hy] at hi2
            obtain ⟨cs', hc1, hc2⟩ := Option.bind_eq_some_iff.1 hi2
            obtain ⟨t, ai, ci, rfl, hr⟩ := ih _ _ (DataW.trod_succ _ _ _ _ hc2)
            obtain ⟨_, _, hcs⟩ := World.cells?_some hc1
            obtain ⟨ab, ao, asp⟩ := a
            obtain rfl : asp = none := hspot (by omega)
            have hadd : ∀ d, ((⟨ab, ao, none⟩ : Addr).add (i * 4)).add d = ⟨ab, ao + i * 4 + d, none⟩ := by
              intro d
              unfold Addr.add
              by_cases h1 : i * 4 = 0 <;> by_cases h2 : d = 0 <;> simp [h1, h2]
              all_goals omega
            have e0 := hcs 0 (by omega)
            have e1 := hcs 1 (by omega)
            have e2 := hcs 2 (by omega)
            have e3 := hcs 3 (by omega)
            rw [hadd] at e0 e1 e2 e3
            exact ⟨t, fun _ => ⟨ai, ci, ⟨e0, e1, e2, e3⟩, hr⟩⟩
          · exact ⟨Tree.leaf 0 0 s, fun h => absurd h hi⟩
        obtain ⟨f, hf⟩ := Classical.axiomOfChoice each
        refine ⟨Tree.make k m s len f, some a, cap, rfl, Rep.mk ⟨bk, bm, ws', by show len ≤ _; omega⟩ ?_⟩
        by_cases h0 : 0 < len
        · obtain ⟨ab, ao, asp⟩ := a
          obtain rfl : asp = none := hspot h0
          refine .inr ⟨ab, ao, rfl, fun i hi => ?_⟩
          obtain ⟨ai, ci, h1, h2⟩ := hf i hi
          exact ⟨ai, ci, by rw [Tree.make_kid (show i < len from hi)]; exact h1, by rw [Tree.make_kid (show i < len from hi)]; exact h2⟩
        · exact .inl (show len = 0 by omega)
end
end Go.Proofs.YtkpdngfkdmllkaaDoor
