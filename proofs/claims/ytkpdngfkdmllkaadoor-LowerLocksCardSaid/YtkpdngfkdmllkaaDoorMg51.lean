/-
  Mg51: several texts in one (LowTrans, LowLocksP, AppSt, LowLocks1, LowLocks2, TreeOpen).
-/
import Derived.Test.YtkpdngfkdmllkaaDoorMg50
import Derived.Test.YtkpdngfkdmllkaaDoorMg36
import Derived.Test.YtkpdngfkdmllkaaDoorMg40
import Derived.Test.YtkpdngfkdmllkaaDoorMg6
import Derived.Test.YtkpdngfkdmllkaaDoorMg5
import Derived.Deep.RegionHeld
import Derived.OrdersHeld
import Derived.Deep.Cut
import Derived.Deep.CutRange
import Derived.Deep.DeepCutAuto
import Derived.Deep.CutBlock
import Derived.Test.YtkpdngfkdmllkaaDoorRows
import Derived.Test.YtkpdngfkdmllkaaDoorMg0
import Derived.ProofKit
import Derived.OpenShut
import Derived.Lib.SmallJoins
import Derived.WideKeyArgs
/-
  Contract: translated (package ontimelaw18).
-/
namespace Go.Proofs.YtkpdngfkdmllkaaDoor
set_option linter.unusedVariables false
set_option linter.unusedSimpArgs false
open Go.RowKit Go.Maps
set_option maxRecDepth 100000
set_option maxHeartbeats 8000000

/-- what translated answers -/
def TransRet (p : Prg) (k : Int) (w : World) (e : Ending) (w' : World) : Prop := ∃ F b aa ac ba bc, e = .returned (.tuple #[fnVal F.name F.regs aa F.arrays.length ac ba F.blocks.length bc, .bool b]) ∧ FnNew w.heap.size w' F aa ba ∧ Below w.heap.size w w' ∧
  (b = true → okP p = true ∧ (0 ≤ k ∧ k < p.tasks.length) ∧ F = lowFn p.shared (p.tasks.getD k.toNat Tsk.none))
theorem TransRet.no {p : Prg} {k : Int} {w w' : World} (h : Below w.heap.size w w') : TransRet p k w (.returned (.tuple #[fnVal ⟨#[]⟩ 0 none 0 0 none 0 0, .bool false])) w' :=
  ⟨Fn.zero, false, none, 0, none, 0, rfl, Fn.zero_at _ _, h, fun h => nomatch h⟩
theorem translated_fn (p : Prg) (k : Int) (w : World) (sa ta : Option Addr) (sc tc : Nat) (hp : PrgAt w p sa ta) (hg : SignsIn w) (hk : isI64 k) :
    Calls Tryd.prog 9 #[p.val sa sc ta tc, .int .i64 k] w (TransRet p k w) := by
  have htl := hp.2.1
  have HKK := Lib.hid hk
  have hk1 := hk.1
  have hk2 := hk.2
  obtain ⟨A0, h0⟩ : ∃ A0 : World, w.alloc (prgObj p sa sc ta tc) = A0 := ⟨_, rfl⟩
  obtain ⟨A1, h1⟩ : ∃ A1 : World, A0.alloc (fnObj ⟨#[]⟩ 0 (.slice none 0 0) (.slice none 0 0)) = A1 := ⟨_, rfl⟩
  have HB0 : Hid (Below w.heap.size w A0) := by show Below _ _ _; rw [← h0]; exact mem_alloc _ _
  have HB1 : Hid (Below A0.heap.size A0 A1) := by show Below _ _ _; rw [← h1]; exact mem_alloc _ _
  have HX0 : Hid (A0.heap[w.heap.size]? = some (prgObj p sa sc ta tc)) := by show _ = _; rw [← h0]; exact mem_new _ _
  have HX1 : Hid (A1.heap[A0.heap.size]? = some (fnObj ⟨#[]⟩ 0 (.slice none 0 0) (.slice none 0 0))) := by show _ = _; rw [← h1]; exact mem_new _ _
  have HBW := Lib.hid (mem_then HB0.out HB1.out)
  have HZ : Hid (A0.heap.size = w.heap.size + 1) := by show _ = _; rw [← h0]; simp
  have HK : Hid (∀ w', Below A1.heap.size A1 w' → w'.heap[w.heap.size]? = some (prgObj p sa sc ta tc) ∧ w'.heap[A0.heap.size]? = some (fnObj ⟨#[]⟩ 0 (.slice none 0 0) (.slice none 0 0)) ∧ PrgAt w' p sa ta ∧ Below w.heap.size w w' ∧ SignsIn w') := fun w' h =>
    ⟨mem_keep (mem_keep HX0.out HB1.out) h, mem_keep HX1.out h, hp.below (mem_then HBW.out h), mem_then HBW.out h, hg.below (mem_then HBW.out h)⟩
  -- a way out with the zero function
  have HZF : Hid (∀ w', Below A1.heap.size A1 w' → Below w.heap.size w (put4 w' A0.heap.size (.string ⟨#[]⟩) (.int .i64 0) (.slice none 0 0) (.slice none 0 0)) ∧ (put4 w' A0.heap.size (.string ⟨#[]⟩) (.int .i64 0) (.slice none 0 0) (.slice none 0 0)).heap[A0.heap.size]? = some (fnObj ⟨#[]⟩ 0 (.slice none 0 0) (.slice none 0 0))) := fun w' h =>
    ⟨put4_below (HK.out w' h).2.2.2.1 (by have := HZ.out; omega), put4_at (HK.out w' h).2.1⟩
  have y0 : A1.cell? ⟨w.heap.size, 0, none⟩ = some (.slice sa p.shared.length sc) := mem_cell (HK.out A1 (Below.refl _ _)).1 0
  have y1 : A1.cell? ⟨w.heap.size, 1, none⟩ = some (.slice ta p.tasks.length tc) := mem_cell (HK.out A1 (Below.refl _ _)).1 1
  clear hp hg hk
  go_enter Tryd.func9, Tryd.ntmps9
  go_wp2_with fail
  clear y0 y1 h0 h1
  refine (smallProg_any p A1 sa ta sc tc (HK.out A1 (Below.refl _ _)).2.2.1).mono ?_
  rintro e w1 ⟨⟨b1, rfl⟩, hB1⟩
  have HB1' := Lib.hid hB1
  have y0 : w1.cell? ⟨w.heap.size, 0, none⟩ = some (.slice sa p.shared.length sc) := mem_cell (HK.out w1 hB1).1 0
  have y1 : w1.cell? ⟨w.heap.size, 1, none⟩ = some (.slice ta p.tasks.length tc) := mem_cell (HK.out w1 hB1).1 1
  clear hB1
  have HOUT : Hid (∀ w', Below A1.heap.size A1 w' → ∃ X : World, put4 w' A0.heap.size (.string ⟨#[]⟩) (.int .i64 0) (.slice none 0 0) (.slice none 0 0) = X ∧ (Below w.heap.size w X ∧ X.heap[A0.heap.size]? = some (fnObj ⟨#[]⟩ 0 (.slice none 0 0) (.slice none 0 0)))) := fun w' h => ⟨_, rfl, HZF.out w' h⟩
  cases b1 with
  | false =>
    obtain ⟨c0, c1, c2, c3, cf⟩ := fn_four (HK.out w1 HB1'.out).2.1
    obtain ⟨WE, hWE, hz⟩ := HOUT.out w1 HB1'.out
    have HZ1 := Lib.hid hz
    unfold put4 at hWE
    clear hz
    go_wp2_with fail
    clear c0 c1 c2 c3 cf hWE
    obtain ⟨r0, r1, r2, r3, _⟩ := fn_four HZ1.out.2
    exact bodyPost_ret (v := .tuple #[fnVal ⟨#[]⟩ 0 none 0 0 none 0 0, .bool false]) (by simp [results, Tryd.results9, go_sem, r0, r1, r2, r3]) rfl (TransRet.no HZ1.out.1)
  | true =>
  go_wp2_with fail
  clear y0 y1
  refine (ok15_any p w1 sa ta sc tc (HK.out w1 HB1'.out).2.2.1 (HK.out w1 HB1'.out).2.2.2.2).mono ?_
  rintro e w2 ⟨rfl, hB2⟩
  have HB2 := Lib.hid (mem_then HB1'.out hB2)
  have y0 : w2.cell? ⟨w.heap.size, 0, none⟩ = some (.slice sa p.shared.length sc) := mem_cell (HK.out w2 HB2.out).1 0
  have y1 : w2.cell? ⟨w.heap.size, 1, none⟩ = some (.slice ta p.tasks.length tc) := mem_cell (HK.out w2 HB2.out).1 1
  obtain ⟨ok, hok⟩ : ∃ b, okP p = b := ⟨_, rfl⟩
  have HOK := Lib.hid hok
  rw [hok]
  clear hB2 hok
  cases ok with
  | false =>
    obtain ⟨c0, c1, c2, c3, cf⟩ := fn_four (HK.out w2 HB2.out).2.1
    obtain ⟨WE, hWE, hz⟩ := HOUT.out w2 HB2.out
    have HZ1 := Lib.hid hz
    unfold put4 at hWE
    clear hz
    go_wp2_with fail
    clear c0 c1 c2 c3 cf hWE
    obtain ⟨r0, r1, r2, r3, _⟩ := fn_four HZ1.out.2
    exact bodyPost_ret (v := .tuple #[fnVal ⟨#[]⟩ 0 none 0 0 none 0 0, .bool false]) (by simp [results, Tryd.results9, go_sem, r0, r1, r2, r3]) rfl (TransRet.no HZ1.out.1)
  | true =>
  by_cases h0 : k < 0
  · have h0d : decide (k < 0) = true := by simpa using h0
    obtain ⟨c0, c1, c2, c3, cf⟩ := fn_four (HK.out w2 HB2.out).2.1
    obtain ⟨WE, hWE, hz⟩ := HOUT.out w2 HB2.out
    have HZ1 := Lib.hid hz
    unfold put4 at hWE
    clear hz
    go_wp2_with fail
    clear c0 c1 c2 c3 cf hWE
    obtain ⟨r0, r1, r2, r3, _⟩ := fn_four HZ1.out.2
    exact bodyPost_ret (v := .tuple #[fnVal ⟨#[]⟩ 0 none 0 0 none 0 0, .bool false]) (by simp [results, Tryd.results9, go_sem, r0, r1, r2, r3]) rfl (TransRet.no HZ1.out.1)
  have h0d : decide (k < 0) = false := by simpa using h0
  by_cases h1 : (p.tasks.length : Int) ≤ k
  · have h1d : decide ((p.tasks.length : Int) ≤ k) = true := by simpa using h1
    obtain ⟨c0, c1, c2, c3, cf⟩ := fn_four (HK.out w2 HB2.out).2.1
    obtain ⟨WE, hWE, hz⟩ := HOUT.out w2 HB2.out
    have HZ1 := Lib.hid hz
    unfold put4 at hWE
    clear hz
    go_wp2_with fail
    clear c0 c1 c2 c3 cf hWE
    obtain ⟨r0, r1, r2, r3, _⟩ := fn_four HZ1.out.2
    exact bodyPost_ret (v := .tuple #[fnVal ⟨#[]⟩ 0 none 0 0 none 0 0, .bool false]) (by simp [results, Tryd.results9, go_sem, r0, r1, r2, r3]) rfl (TransRet.no HZ1.out.1)
  have h1d : decide ((p.tasks.length : Int) ≤ k) = false := by simpa using h1
  have HKB : Hid (0 ≤ k ∧ k < p.tasks.length) := ⟨by omega, by omega⟩
  have HR : Hid (taskR p k = (lowFn p.shared (p.tasks.getD k.toNat Tsk.none), 0)) := by
    show _ = _; unfold taskR; rw [if_neg (by rw [HOK.out]; simp), if_neg (by omega)]
  clear h0 h1
  have hT := task_any p k w2 sa ta sc tc (HK.out w2 HB2.out).2.2.1 (HK.out w2 HB2.out).2.2.2.2 HKK.out
  rw [HR.out] at hT
  obtain ⟨F, hF⟩ : ∃ F, lowFn p.shared (p.tasks.getD k.toNat Tsk.none) = F := ⟨_, rfl⟩
  have HF := Lib.hid hF
  rw [hF] at hT
  have HT := Lib.hid hT
  clear hT hF
  go_wp2_with fail
  clear y0 y1
  refine HT.out.mono ?_
  rintro e w3 ⟨aa, ac, ba, bc, rfl, hfn, hB3⟩
  have HFN := Lib.hid hfn
  have HB3 := Lib.hid (mem_then HB2.out hB3)
  clear hfn hB3 HT
  obtain ⟨an, hn1⟩ : ∃ n, F.arrays.length = n := ⟨_, rfl⟩
  obtain ⟨bn, hn2⟩ : ∃ n, F.blocks.length = n := ⟨_, rfl⟩
  have HNN : Hid (F.arrays.length = an ∧ F.blocks.length = bn) := ⟨hn1, hn2⟩
  simp only [hn1, hn2]
  obtain ⟨V, hV⟩ : ∃ X : World, w3.alloc (fnObj F.name F.regs (.slice aa an ac) (.slice ba bn bc)) = X := ⟨_, rfl⟩
  have HV0 : Hid (Below w3.heap.size w3 V) := by show Below _ _ _; rw [← hV]; exact mem_alloc _ _
  have HVX : Hid (V.heap[w3.heap.size]? = some (fnObj F.name F.regs (.slice aa an ac) (.slice ba bn bc))) := by show _ = _; rw [← hV]; exact mem_new _ _
  have HV := Lib.hid (mem_then HB3.out HV0.out)
  obtain ⟨v0, v1, v2, v3, _⟩ := fn_four HVX.out
  obtain ⟨c0, c1, c2, c3, cf⟩ := fn_four (HK.out V HV.out).2.1
  obtain ⟨WE, hWE⟩ : ∃ X : World, put4 V A0.heap.size (.string F.name) (.int .i64 F.regs) (.slice aa an ac) (.slice ba bn bc) = X := ⟨_, rfl⟩
  have HEX : Hid (WE.heap[A0.heap.size]? = some (fnObj F.name F.regs (.slice aa an ac) (.slice ba bn bc))) := by show _ = _; rw [← hWE]; exact put4_at (HK.out V HV.out).2.1
  have HAE : Hid (FnNew w.heap.size WE F aa ba) := by
    refine (FnNew.move HFN.out (by rw [← hWE]; unfold put4; simp; exact HV0.out.size) (fun k h1 h2 => ?_)).mono (by have := HB2.out.size; have := HBW.out.size; omega)
    rw [← hWE]
    exact (put4_far (by have h3 := mem_lt (HK.out w2 HB2.out).2.1; omega)).trans (HV0.out.block k h2)
  have HBE : Hid (Below w.heap.size w WE) := by show Below _ _ _; rw [← hWE]; exact put4_below (HK.out V HV.out).2.2.2.1 (by have := HZ.out; omega)
  unfold put4 at hWE
  clear hn1 hn2
  go_wp2_with fail
  clear c0 c1 c2 c3 cf hWE hV v0 v1 v2 v3
  obtain ⟨r0, r1, r2, r3, _⟩ := fn_four HEX.out
  exact bodyPost_ret (v := .tuple #[fnVal F.name F.regs aa an ac ba bn bc, .bool true]) (by simp [results, Tryd.results9, go_sem, r0, r1, r2, r3]) rfl ⟨F, true, aa, ac, ba, bc, by rw [HNN.out.1, HNN.out.2], HAE.out, HBE.out, fun _ => ⟨HOK.out, HKB.out, HF.out.symm⟩⟩
end Go.Proofs.YtkpdngfkdmllkaaDoor

/-
  Plain law of LowerLocks: one instruction to lock and one to unlock for each Lock statement, with its object. No walk here.
-/
namespace Go.Proofs.YtkpdngfkdmllkaaDoor
set_option linter.unusedVariables false
set_option linter.unusedSimpArgs false
open Go.RowKit
set_option maxRecDepth 100000

def catTo {α : Type} (f : Nat → List α) : Nat → List α
  | 0 => []
  | n + 1 => catTo f n ++ f n
theorem catTo_eq {α : Type} (f g : Nat → List α) : ∀ n, (∀ i, i < n → f i = g i) → catTo f n = catTo g n := by
  intro n
  induction n with
  | zero => intro _; rfl
  | succ n ih => intro h; show catTo f n ++ f n = catTo g n ++ g n; rw [ih (fun i hi => h i (by omega)), h n (by omega)]
/-- the objects of the Lock statements of a tree, in pre-order -/
def Tree.locks : Tree → List ByteArray
  | .node k n s l kid => (if k = 46 then [s] else []) ++ catTo (fun i => if h : i < l then locks (kid ⟨i, h⟩) else []) l
theorem Tree.locks_eq (t : Tree) : t.locks = (if t.kind = 46 then [t.name] else []) ++ catTo (fun i => (t.kid i).locks) t.len := by
  cases t with
  | node k n s l kid =>
    rw [Tree.locks]
    show _ ++ _ = (if k = 46 then [s] else []) ++ catTo (fun i => ((Tree.node k n s l kid).kid i).locks) l
    congr 1
    refine catTo_eq _ _ _ (fun i hi => ?_)
    rw [dif_pos hi, Tree.kid_node hi]
theorem catTo_nil {α : Type} {f : Nat → List α} : ∀ n, (∀ i, i < n → f i = []) → catTo f n = [] := by
  intro n
  induction n with
  | zero => intro _; rfl
  | succ n ih => intro h; show catTo f n ++ f n = []; rw [ih (fun i hi => h i (by omega)), h n (by omega)]; rfl
theorem locksE : ∀ (t : Tree), t.vld 101 = true → t.locks = [] := by
  intro t
  induction t using Tree.ind with
  | h t ih =>
    intro hv
    obtain ⟨hk, _, hkid, _⟩ := vldE hv
    rw [Tree.locks_eq, if_neg (by omega), List.nil_append]
    exact catTo_nil _ (fun i hi => ih i hi (hkid i hi))
theorem locksP {p : Tree} (h : p.vld 112 = true) : p.locks = [] := by
  have h0 := h
  rw [Tree.vld_eq, Bool.and_eq_true] at h
  obtain ⟨h1, h2⟩ := h
  have hk : p.kind = 2 ∨ p.kind = 3 := by
    unfold Fm.belongs at h1
    simpa using h1
  rw [if_neg (by omega)] at h2
  simp only [Bool.and_eq_true, decide_eq_true_eq] at h2
  obtain ⟨⟨⟨⟨h3, h4⟩, h5⟩, h6⟩, h7⟩ := h2
  rw [Tree.locks_eq, if_neg (by omega), List.nil_append]
  rcases hk with hk | hk
  · rw [hk] at h5
    have h5 : p.len = 0 := h5
    rw [h5]
    rfl
  · rw [hk] at h5 h7
    have h5 : p.len = 1 := h5
    have h8 : (p.kid 0).vld 101 = true := Tree.allTo_iff.1 h7 0 (by omega)
    rw [h5]
    show [] ++ (p.kid 0).locks = []
    rw [locksE _ h8]
    rfl
section
variable (f : Ins → Bool)
/-- how many instructions of a translation so far answer -/
def LS.cnt (s : LS) : Nat := (s.done.map (fun b => b.code.countP f)).sum + s.code.countP f
/-- an instruction's operation is neither Lock nor Unlock -/
def Calm46 (i : Ins) : Prop := i.op ≠ 11 ∧ i.op ≠ 12
theorem calm_ins {op d x y imm : Int} {s : ByteArray} (h : op ≠ 11 ∧ op ≠ 12) : Calm46 (insB op d x y imm s) := h
theorem lowB_calm {E : LEnv} {V : VM} {k n : Int} {s : ByteArray} {f0 f1 : Nat → LE} (h0 : ∀ R, ∀ i ∈ (f0 R).code, Calm46 i) (h1 : ∀ R, ∀ i ∈ (f1 R).code, Calm46 i) (R : Nat) : ∀ i ∈ (lowB E V k n s f0 f1 R).code, Calm46 i := by
  intro i hi
  unfold lowB at hi
  split at hi
  · simp only [List.mem_cons, List.not_mem_nil, or_false] at hi; subst hi; exact calm_ins (by decide)
  split at hi
  · cases hi
  split at hi
  · simp only [List.mem_append, List.mem_cons, List.not_mem_nil, or_false] at hi
    rcases hi with hi | rfl | rfl
    · exact h0 _ _ hi
    · exact calm_ins (by decide)
    · by_cases h : E.sh s = true
      · simp only [h, if_true]; exact calm_ins (by decide)
      · rw [if_neg h]; exact calm_ins (by decide)
  split at hi
  · simp only [List.mem_append, List.mem_cons, List.not_mem_nil, or_false] at hi
    rcases hi with hi | rfl | rfl
    · exact h0 _ _ hi
    · exact calm_ins (by decide)
    · exact calm_ins (by decide)
  split at hi
  · simp only [List.mem_append, List.mem_cons, List.not_mem_nil, or_false] at hi
    rcases hi with hi | rfl | rfl
    · exact h0 _ _ hi
    · exact calm_ins (by decide)
    · exact calm_ins (by decide)
  · simp only [List.mem_append, List.mem_cons, List.not_mem_nil, or_false] at hi
    rcases hi with (hi | hi) | rfl
    · exact h0 _ _ hi
    · exact h1 _ _ hi
    · exact calm_ins (by decide)
theorem lowE_calm (E : LEnv) (V : VM) : ∀ (t : Tree) (R : Nat), ∀ i ∈ (t.lowE E V R).code, Calm46 i := by
  intro t
  induction t using Tree.ind with
  | h t ih =>
    intro R
    rw [Tree.lowE_eq]
    refine lowB_calm (fun R i hi => ?_) (fun R i hi => ?_) R
    · by_cases h : 0 < t.len
      · rw [if_pos h] at hi; exact ih 0 h R i hi
      · rw [if_neg h] at hi; cases hi
    · by_cases h : 1 < t.len
      · rw [if_pos h] at hi; exact ih 1 h R i hi
      · rw [if_neg h] at hi; cases hi
theorem kidLE_calm (E : LEnv) (t : Tree) (j : Nat) (V : VM) (R : Nat) : ∀ i ∈ (kidLE E t j V R).code, Calm46 i := by
  intro i hi
  unfold kidLE at hi
  by_cases h : j < t.len
  · rw [if_pos h] at hi; exact lowE_calm E V _ _ i hi
  · rw [if_neg h] at hi; cases hi
end
section
variable {f : Ins → Bool} {P : ByteArray → Bool}
/-- a count that passes over calm instructions and takes one of a lock and its unlock for an object -/
structure CntF (f : Ins → Bool) (P : ByteArray → Bool) : Prop where
  calm : ∀ i, Calm46 i → f i = false
  pair : ∀ nm, [insB 11 0 0 0 0 nm, insB 12 0 0 0 0 nm].countP f = [nm].countP P
theorem CntF.zero (h : CntF f P) {l : List Ins} (hl : ∀ i ∈ l, Calm46 i) : l.countP f = 0 := by
  rw [List.countP_eq_zero]
  intro i hi
  rw [h.calm i (hl i hi)]
  decide
theorem CntF.one (h : CntF f P) {i : Ins} (hl : Calm46 i) : [i].countP f = 0 := h.zero (fun x hx => by obtain rfl := List.mem_singleton.1 hx; exact hl)
theorem loop_cnt (h : CntF f P) {lim : Int} {d : Nat} {hd : LE} {enter : VM → VM} {b : LF} {k : Nat} {c : List Ins} {V : VM} {n : Nat} (h0 : hd.code.countP f = 0) (hb : ∀ k c R V, (b k c R V).cnt f = c.countP f + n) : (loopL lim d hd enter b k c V).cnt f = c.countP f + n := by
  unfold loopL
  dsimp only
  have c1 := hb (k + 2) [insB 16 0 d 0 lim noB] hd.regs (enter V)
  rw [h.one (calm_ins (by decide))] at c1
  obtain ⟨q, hq⟩ : ∃ q, b (k + 2) [insB 16 0 d 0 lim noB] hd.regs (enter V) = q := ⟨_, rfl⟩
  rw [hq] at c1 ⊢
  have e1 := h.one (calm_ins (d := 0) (x := 0) (y := 0) (imm := d) (s := noB) (show (13 : Int) ≠ 11 ∧ (13 : Int) ≠ 12 by decide))
  have e2 := h.one (calm_ins (d := 0) (x := 0) (y := 0) (imm := d) (s := noB) (show (14 : Int) ≠ 11 ∧ (14 : Int) ≠ 12 by decide))
  unfold LS.cnt at c1 ⊢
  simp only [List.map_append, List.map_cons, List.map_nil, List.sum_append, List.sum_cons, List.sum_nil, List.countP_append, List.countP_nil, h0, e1, e2, Nat.add_zero, Nat.zero_add] at c1 ⊢
  omega
theorem low_cnt (h : CntF f P) (E : LEnv) : ∀ (t : Tree), (t.vld 98 = true ∨ t.vld 115 = true) → ∀ (d k : Nat) (c : List Ins) (R : Nat) (V : VM), (t.low E d k c R V).cnt f = c.countP f + t.locks.countP P := by
  intro t
  induction t using Tree.ind with
  | h t ih =>
    intro hv d k c R V
    rw [Tree.low_eq, Tree.locks_eq]
    rcases hv with hv | hv
    · obtain ⟨hk, hkid⟩ := vldB hv
      rw [if_pos hk, if_neg (by omega), List.nil_append]
      have key : ∀ n, n ≤ t.len → (seqL (fun i => kidL E t i d) k c R V n).cnt f = c.countP f + (catTo (fun i => (t.kid i).locks) n).countP P := by
        intro n
        induction n with
        | zero => intro _; show (LS.mk [] c R V).cnt f = _; unfold LS.cnt catTo; simp
        | succ n ihn =>
          intro hn
          have h1 := ihn (by omega)
          show ((seqL (fun i => kidL E t i d) k c R V n).next k (kidL E t n d)).cnt f = _
          obtain ⟨q, hq⟩ : ∃ q, seqL (fun i => kidL E t i d) k c R V n = q := ⟨_, rfl⟩
          rw [hq] at h1 ⊢
          have h2 := ih n (by omega) (.inr (hkid n (by omega))) d (k + q.done.length) q.code q.regs q.vars
          have h3 : kidL E t n d = (t.kid n).low E d := by unfold kidL; rw [if_pos (show n < t.len by omega)]
          rw [h3]
          unfold LS.cnt at h1 h2
          unfold LS.next LS.cnt
          simp only [List.map_append, List.sum_append]
          show _ = c.countP f + (catTo (fun i => (t.kid i).locks) n ++ (t.kid n).locks).countP _
          rw [List.countP_append]
          omega
      exact key t.len (Nat.le_refl _)
    · obtain ⟨⟨hk1, hk2⟩, _, hlen, hkid⟩ := vldS hv
      rw [if_neg (by omega)]
      have hb : ∀ i, i < t.len → (t.kid i).vld 98 = true → ∀ d k c R V, (kidL E t i d k c R V).cnt f = c.countP f + (t.kid i).locks.countP P := fun i hi hvi d k c R V => by
        have h3 : kidL E t i d = (t.kid i).low E d := by unfold kidL; rw [if_pos hi]
        rw [h3]
        exact ih i hi (.inl hvi) d k c R V
      have he : ∀ j V R, (kidLE E t j V R).code.countP f = 0 := fun j V R => h.zero (kidLE_calm E t j V R)
      have heE : ∀ (x : Tree) V R, (x.lowE E V R).code.countP f = 0 := fun x V R => h.zero (lowE_calm E V x R)
      obtain hk | hk | hk | hk | hk | hk | hk : t.kind = 40 ∨ t.kind = 41 ∨ t.kind = 42 ∨ t.kind = 43 ∨ t.kind = 44 ∨ t.kind = 45 ∨ t.kind = 46 := by omega
      all_goals rw [hk] at hlen hkid
      · have hlen : t.len = 2 := hlen
        have l0 := locksP (hkid 0 (by omega))
        have l1 := locksE _ (hkid 1 (by omega))
        rw [if_neg (by omega), hlen]
        show _ = _ + ([] ++ (([] ++ (t.kid 0).locks) ++ (t.kid 1).locks)).countP _
        rw [l0, l1]
        unfold lowS
        rw [if_pos hk]
        by_cases h2 : (t.kid 0).kind = 2
        · rw [if_pos h2]
          unfold LS.cnt
          simp only [List.map_nil, List.sum_nil, List.countP_append, he, h.one (calm_ins (show (2 : Int) ≠ 11 ∧ (2 : Int) ≠ 12 by decide))]
          simp
        · rw [if_neg h2]
          unfold LS.cnt
          have e1 : [insB 8 0 (((t.kid 0).kid 0).lowE E V R).r 0 (E.len (t.kid 0).name) noB, stoB E (t.kid 0).name (((t.kid 0).kid 0).lowE E V R).r (kidLE E t 1 V (((t.kid 0).kid 0).lowE E V R).regs).r].countP f = 0 := h.zero (fun i hi => by
            simp only [List.mem_cons, List.not_mem_nil, or_false] at hi
            rcases hi with rfl | rfl
            · exact calm_ins (by decide)
            · unfold stoB
              by_cases h : E.sh (t.kid 0).name = true
              · rw [if_pos h]; exact calm_ins (by decide)
              · rw [if_neg h]; exact calm_ins (by decide))
          simp only [List.map_nil, List.sum_nil, List.countP_append, he, heE, e1]
          simp
      · have hlen : t.len = 3 := hlen
        have l0 := locksE _ (hkid 0 (by omega))
        rw [if_neg (by omega), hlen]
        show _ = _ + ([] ++ ((([] ++ (t.kid 0).locks) ++ (t.kid 1).locks) ++ (t.kid 2).locks)).countP _
        rw [l0]
        unfold lowS
        rw [if_neg (by omega), if_pos hk]
        unfold ifL
        dsimp only
        have b1 := hb 1 (by omega) (hkid 1 (by omega))
        have b2 := hb 2 (by omega) (hkid 2 (by omega))
        obtain ⟨e, hee⟩ : ∃ e, kidLE E t 0 V R = e := ⟨_, rfl⟩
        have he0 := he 0 V R
        rw [hee] at he0 ⊢
        have c1 := b1 d (k + 1) [] e.regs V
        obtain ⟨s1, hs1⟩ : ∃ s1, kidL E t 1 d (k + 1) [] e.regs V = s1 := ⟨_, rfl⟩
        rw [hs1] at c1 ⊢
        have c2 := b2 d (k + 1 + s1.done.length + 1) [] s1.regs s1.vars
        obtain ⟨s2, hs2⟩ : ∃ s2, kidL E t 2 d (k + 1 + s1.done.length + 1) [] s1.regs s1.vars = s2 := ⟨_, rfl⟩
        rw [hs2] at c2 ⊢
        unfold LS.cnt at c1 c2 ⊢
        simp only [List.map_append, List.map_cons, List.map_nil, List.sum_append, List.sum_cons, List.sum_nil, List.countP_append, List.countP_nil, he0, List.nil_append] at c1 c2 ⊢
        omega
      · have hlen : t.len = 1 := hlen
        rw [if_neg (by omega), hlen]
        show _ = _ + ([] ++ ([] ++ (t.kid 0).locks)).countP _
        unfold lowS
        rw [if_neg (by omega), if_neg (by omega), if_pos hk]
        exact loop_cnt (lim := t.num) (d := d) (hd := forH t.num d R) (enter := fun V => upd V t.name (some R)) (b := kidL E t 0 (d + 1)) h (h.zero (fun i hi => by
          unfold forH at hi
          simp only [List.mem_cons, List.not_mem_nil, or_false] at hi
          rcases hi with rfl | rfl | rfl
          · exact calm_ins (by decide)
          · exact calm_ins (by decide)
          · exact calm_ins (by decide))) (hb 0 (by omega) (hkid 0 (by omega)) (d + 1))
      · have hlen : t.len = 2 := hlen
        have l0 := locksE _ (hkid 0 (by omega))
        rw [if_neg (by omega), hlen]
        show _ = _ + ([] ++ (([] ++ (t.kid 0).locks) ++ (t.kid 1).locks)).countP _
        rw [l0]
        unfold lowS
        rw [if_neg (by omega), if_neg (by omega), if_neg (by omega), if_pos hk]
        exact loop_cnt h (he 0 V R) (hb 1 (by omega) (hkid 1 (by omega)) (d + 1))
      · have hlen : t.len = 1 := hlen
        have l0 := locksP (hkid 0 (by omega))
        rw [if_neg (by omega), hlen]
        show _ = _ + ([] ++ ([] ++ (t.kid 0).locks)).countP _
        rw [l0]
        unfold lowS
        rw [if_neg (by omega), if_neg (by omega), if_neg (by omega), if_neg (by omega), if_pos hk]
        by_cases h2 : (t.kid 0).kind = 2
        · rw [if_pos h2]
          unfold LS.cnt
          simp only [List.map_nil, List.sum_nil, List.countP_append, h.one (calm_ins (show (9 : Int) ≠ 11 ∧ (9 : Int) ≠ 12 by decide))]
          simp
        · rw [if_neg h2]
          unfold LS.cnt
          have e1 : [insB 8 0 (((t.kid 0).kid 0).lowE E V R).r 0 (E.len (t.kid 0).name) noB, insB 9 (((t.kid 0).kid 0).lowE E V R).regs 0 0 t.num noB, stoB E (t.kid 0).name (((t.kid 0).kid 0).lowE E V R).r (((t.kid 0).kid 0).lowE E V R).regs].countP f = 0 := h.zero (fun i hi => by
            simp only [List.mem_cons, List.not_mem_nil, or_false] at hi
            rcases hi with rfl | rfl | rfl
            · exact calm_ins (by decide)
            · exact calm_ins (by decide)
            · unfold stoB
              by_cases h : E.sh (t.kid 0).name = true
              · rw [if_pos h]; exact calm_ins (by decide)
              · rw [if_neg h]; exact calm_ins (by decide))
          simp only [List.map_nil, List.sum_nil, List.countP_append, heE, e1]
          simp
      · have hlen : t.len = 1 := hlen
        have l0 := locksE _ (hkid 0 (by omega))
        rw [if_neg (by omega), hlen]
        show _ = _ + ([] ++ ([] ++ (t.kid 0).locks)).countP _
        rw [l0]
        unfold lowS
        rw [if_neg (by omega), if_neg (by omega), if_neg (by omega), if_neg (by omega), if_neg (by omega), if_pos hk]
        unfold LS.cnt
        simp only [List.map_nil, List.sum_nil, List.countP_append, he, h.one (calm_ins (show (10 : Int) ≠ 11 ∧ (10 : Int) ≠ 12 by decide))]
        simp
      · have hlen : t.len = 1 := hlen
        rw [if_pos hk, hlen]
        show _ = _ + ([t.name] ++ ([] ++ (t.kid 0).locks)).countP _
        unfold lowS
        rw [if_neg (by omega), if_neg (by omega), if_neg (by omega), if_neg (by omega), if_neg (by omega), if_neg (by omega), if_pos hk]
        dsimp only
        have c1 := hb 0 (by omega) (hkid 0 (by omega)) d k (c ++ [insB 11 0 0 0 0 t.name]) R V
        obtain ⟨q, hq⟩ : ∃ q, kidL E t 0 d k (c ++ [insB 11 0 0 0 0 t.name]) R V = q := ⟨_, rfl⟩
        rw [hq] at c1 ⊢
        have hp := h.pair t.name
        rw [show [insB 11 0 0 0 0 t.name, insB 12 0 0 0 0 t.name] = [insB 11 0 0 0 0 t.name] ++ [insB 12 0 0 0 0 t.name] from rfl, List.countP_append] at hp
        unfold LS.cnt at c1 ⊢
        rw [List.nil_append]
        simp only [List.countP_append] at c1 ⊢
        omega
end
/-- the instructions of a function that answer -/
def Fn.cnt (F : Fn) (f : Ins → Bool) : Nat := (F.blocks.map (fun b => b.code.countP f)).sum
theorem lowFn_cnt {f : Ins → Bool} {P : ByteArray → Bool} (h : CntF f P) (shared : List Arr) (t : Tsk) (hv : t.body.vld 98 = true) : (lowFn shared t).cnt f = t.body.locks.countP P := by
  have h1 := low_cnt h (envOf shared t.arrays) t.body (.inl hv) 0 0 [] t.vars.length (varsM t.vars t.vars.length)
  unfold LS.cnt at h1
  unfold Fn.cnt lowFn lowS0
  simp only [List.map_append, List.map_cons, List.map_nil, List.sum_append, List.sum_cons, List.sum_nil, List.countP_nil, Nat.zero_add, Nat.add_zero] at h1 ⊢
  exact h1
def opS (op : Int) (s : ByteArray) (i : Ins) : Bool := decide (i.op = op) && decide (i.sym = s)
theorem cnt_lock (s : ByteArray) : CntF (opS 11 s) (fun x => decide (x = s)) := ⟨fun i hi => by unfold opS; rw [decide_eq_false hi.1]; rfl, fun nm => by simp [opS, List.countP_cons]⟩
theorem cnt_unlock (s : ByteArray) : CntF (opS 12 s) (fun x => decide (x = s)) := ⟨fun i hi => by unfold opS; rw [decide_eq_false hi.2]; rfl, fun nm => by simp [opS, List.countP_cons]⟩
def opA (op : Int) (i : Ins) : Bool := decide (i.op = op)
theorem cnt_locks : CntF (opA 11) (fun _ => true) := ⟨fun i hi => by unfold opA; rw [decide_eq_false hi.1], fun nm => by simp [opA, List.countP_cons]⟩
theorem cnt_unlocks : CntF (opA 12) (fun _ => true) := ⟨fun i hi => by unfold opA; rw [decide_eq_false hi.2], fun nm => by simp [opA, List.countP_cons]⟩
/-- no more locks than nodes, whatever the name -/
theorem lowFn_few {f : Ins → Bool} {P : ByteArray → Bool} (h : CntF f P) (shared : List Arr) (t : Tsk) (hv : t.body.vld 98 = true) : (lowFn shared t).cnt f ≤ t.body.locks.length := by
  rw [lowFn_cnt h shared t hv]
  exact List.countP_le_length
end Go.Proofs.YtkpdngfkdmllkaaDoor

/-
  A row that a drawn region builds by appends, beside boxes and new objects. No program's function is named here.
-/
namespace Go.Proofs.YtkpdngfkdmllkaaDoor
set_option linter.unusedVariables false
set_option linter.unusedSimpArgs false
open Go.RowKit

theorem Src.below {w w' : World} {A : Option Addr} {m size : Nat} {news : List Value} (h : Src w A m size news) (hB : Below w.heap.size w w') : Src w' A m size news :=
  ⟨h.1, h.2.imp id fun ⟨ad, h1, h2⟩ => ⟨ad, h1, fun j u hu => (hB.cell (World.block_lt_of_cell? w _ (h2 j u hu))).trans (h2 j u hu)⟩⟩
theorem own_src {w : World} {base : Nat} {e : TypeId} {size n c : Nat} {A : Option Addr} {xs : List Value} (h : w.ownsRow base e size (.slice A n c) n xs) : Src w A n size xs := by
  refine ⟨h.1, ?_⟩
  rcases h.2 with ⟨h1, h2⟩ | ⟨g, cap, cur, h1, hg, hc, _⟩
  · exact .inl h2
  · injection h1 with h1 h2 h3
    subst h1
    exact .inr ⟨_, rfl, fun j u hu => h.cells rfl j u hu⟩
/-- one new object as a source -/
theorem one_src {w : World} {b n size : Nat} {cs : List Value} {e : TypeId} (h : w.heap[b]? = some (.cells cs.toArray e)) (hl : cs.length = n * size) : Src w (some ⟨b, 0, none⟩) n size cs :=
  ⟨hl, .inr ⟨_, rfl, fun j u hu => by
    have e1 : (⟨b, 0, none⟩ : Addr).add j = ⟨b, j, none⟩ := by
      unfold Addr.add
      by_cases h0 : j = 0 <;> simp [h0]
    rw [e1, mem_cell h]
    simpa using hu⟩⟩
structure AppSt (W : World) (Ks : List (Nat × Obj)) (e : TypeId) (size : Nat) (v : Value) (n : Nat) (xs : List Value) (w : World) : Prop where
  bel : Below W.heap.size W w
  own : w.ownsRow W.heap.size e size v n xs
  blk : ∀ x ∈ Ks, w.heap[x.1]? = some x.2 ∧ v.ownBlock ≠ some x.1
section
variable {W w w' : World} {Ks : List (Nat × Obj)} {e : TypeId} {size n m : Nat} {v v' : Value} {xs news : List Value}
theorem AppSt.begin (hB : Below W.heap.size W w) (hk : ∀ x ∈ Ks, w.heap[x.1]? = some x.2) : AppSt W Ks e size (.slice none 0 0) 0 [] w :=
  ⟨hB, World.ownsRow_nil _ _ _ _, fun x hx => ⟨hk x hx, fun h => by cases h⟩⟩
theorem AppSt.start (h : AppSt W Ks e size v n xs w) : AppSt W Ks e size (.slice (some ⟨w.heap.size, 0, none⟩) 0 0) 0 [] (w.alloc (.cells #[] e)) :=
  ⟨mem_then h.bel (mem_alloc _ _), ⟨by simp, .inr ⟨w.heap.size, 0, #[], rfl, h.bel.size, mem_new _ _, by omega, by unfold maxLen; omega, by simp, by simp⟩⟩, fun x hx => ⟨mem_keep (h.blk x hx).1 (mem_alloc _ _), fun he => by
    have h1 := mem_lt (h.blk x hx).1
    have : w.heap.size = x.1 := Option.some.inj he
    omega⟩⟩
theorem AppSt.alloc (h : AppSt W Ks e size v n xs w) (o : Obj) : AppSt W ((w.heap.size, o) :: Ks) e size v n xs (w.alloc o) :=
  ⟨mem_then h.bel (mem_alloc _ _), own_below h.own (mem_alloc _ _), fun x hx => by
    rcases List.mem_cons.1 hx with rfl | hx
    · exact ⟨mem_new _ _, fun he => by
        have h1 := (own_lt h.own he).2
        omega⟩
    · exact ⟨mem_keep (h.blk x hx).1 (mem_alloc _ _), (h.blk x hx).2⟩⟩
theorem AppSt.grow (h : AppSt W Ks e size v n xs w) (ho : w'.ownsRow W.heap.size e size v' m news) (hg : w.grownBy w' v.ownBlock) (hp : v'.ownBlock = v.ownBlock ∨ v'.ownBlock = some w.heap.size) : AppSt W Ks e size v' m news w' :=
  ⟨h.bel.grown hg h.bel.size (fun k hk => (own_lt h.own hk).1), ho, fun x hx => ⟨(hg.block x.1 (mem_lt (h.blk x hx).1) (fun he => (h.blk x hx).2 he.symm)).trans (h.blk x hx).1, fun he => by
    rcases hp with hp | hp
    · exact (h.blk x hx).2 (hp ▸ he)
    · have h1 := mem_lt (h.blk x hx).1
      rw [hp] at he
      have : w.heap.size = x.1 := Option.some.inj he
      omega⟩⟩
/-- the end: the row is stored into a box -/
def AppEnd (W : World) (ub : Nat) (arr : Array Value) (T e : TypeId) (size k n : Nat) (xs : List Value) (w' : World) : Prop :=
  ∃ A c, w'.heap[ub]? = some (.cells (arr.setIfInBounds k (.slice A n c)) T) ∧ w'.ownsRow W.heap.size e size (.slice A n c) n xs ∧ Below W.heap.size W w'
theorem AppSt.put {ub k c : Nat} {A : Option Addr} {arr : Array Value} {T : TypeId} (h : AppSt W Ks e size (.slice A n c) n xs w) (hu : (ub, Obj.cells arr T) ∈ Ks) (hW : W.heap.size ≤ ub) :
    AppEnd W ub arr T e size k n xs (w.setCell ⟨ub, k, none⟩ (.slice A n c)) := by
  obtain ⟨h1, h2⟩ := h.blk _ hu
  refine ⟨A, c, mem_set h1, own_keep h.own (fun b hb _ => Below.heap_setCell _ _ _ _ (fun e1 => ?_)), h.bel.setCell hW _⟩
  have e1 : b = ub := e1
  subst e1
  exact h2 hb
end
/-- the relation, at a normal end alone -/
def OnlyRunA (R : Act → World → Prop) : Exit → Act → World → Prop
  | .normal, a, w => R a w
  | _, _, _ => False
theorem cut_runA {P : Program} {cd : Code} {Q : Exit → Act → World → Prop} {a : Act} {W : World} (R : Act → Act → World → Prop)
    (h : cd.wp P (OnlyRunA (R a)) a W) (hq : ∀ a' w', R a a' w' → Q .normal a' w') : cd.wp P Q a W :=
  wp_mono h fun e a' w' h' => by cases e <;> first | exact hq a' w' h' | exact (h' : False).elim
/-- slots from lo on, n of them, are turned -/
def putAll (ts : Array Value) : Nat → List Value → Array Value
  | _, [] => ts
  | lo, y :: l => putAll (ts.setIfInBounds lo y) (lo + 1) l
def RunEnd (lo n : Nat) (P : World → Prop) (a a' : Act) (w' : World) : Prop := ∃ l : List Value, l.length = n ∧ a' = { a with tmps := putAll a.tmps lo l } ∧ P w'
end Go.Proofs.YtkpdngfkdmllkaaDoor

/-
  Contract: Locks (package ontimeref18).
-/
namespace Go.Proofs.YtkpdngfkdmllkaaDoor
set_option linter.unusedVariables false
set_option linter.unusedSimpArgs false
open Go.RowKit Go.Maps
set_option maxRecDepth 100000
set_option maxHeartbeats 8000000

theorem Tryd.infoStrL : (Tryd.prog.info? 9).map (fun i => (i.zero, i.size, i.bytes)) = some (some (.string ⟨#[]⟩), 1, 16) := by kernel_rfl
theorem catTo_len {f : Nat → List ByteArray} {g : Nat → Nat} : ∀ n, (∀ i, i < n → (f i).length ≤ g i) → (catTo f n).length ≤ Tree.sumTo g n := by
  intro n
  induction n with
  | zero => intro _; exact Nat.zero_le _
  | succ n ih =>
    intro h
    have h1 := ih (fun i hi => h i (by omega))
    have h2 := h n (by omega)
    rw [Tree.sumTo_succ]
    show (catTo f n ++ f n).length ≤ _
    rw [List.length_append]
    omega
theorem locks_len : ∀ t : Tree, t.locks.length ≤ t.size := by
  intro t
  induction t using Tree.ind with
  | h t ih =>
    rw [Tree.locks_eq, Tree.size_eq, List.length_append]
    have h1 := catTo_len (f := fun i => (t.kid i).locks) (g := fun i => (t.kid i).size) t.len (fun i hi => ih i hi)
    by_cases h : t.kind = 46
    · rw [if_pos h, List.length_singleton]; omega
    · rw [if_neg h, List.length_nil]; omega
theorem locks_any : ∀ (t : Tree) (w : World) (a : Option Addr) (c : Nat), Rep w t a → t.size ≤ 1000000 →
    Calls Tryd.prog 14 #[t.val a c] w fun e w' => ∃ va vc, e = .returned (.slice va t.locks.length vc) ∧ w'.ownsRow w.heap.size 9 1 (.slice va t.locks.length vc) t.locks.length (t.locks.map Value.string) ∧ Below w.heap.size w w' := by
  obtain ⟨ti, hti, hz0, hz1, hz2⟩ := info_parts Tryd.infoStrL
  intro t
  induction t using Tree.ind with
  | h t ih =>
    intro w a c hv hsz
    have IH := Lib.hid ih
    have HSZ := Lib.hid hsz
    clear ih
    have hl := hv.fits.len
    have HV := Lib.hid hv
    have HLK := Lib.hid t.locks_eq
    obtain ⟨W, hW⟩ : ∃ W : World, w.alloc (.cells #[.int .u8 t.kind, .int .i64 t.num, .string t.name, .slice a t.len c] 35) = W := ⟨_, rfl⟩
    have HBW : Hid (Below w.heap.size w W) := by show Below _ _ _; rw [← hW]; exact mem_alloc _ _
    have HBX : Hid (W.heap[w.heap.size]? = some (.cells #[.int .u8 t.kind, .int .i64 t.num, .string t.name, .slice a t.len c] 35)) := by show _ = _; rw [← hW]; exact mem_new _ _
    have y0 : W.cell? ⟨w.heap.size, 0, none⟩ = some (.int .u8 t.kind) := mem_cell HBX.out 0
    have y2 : W.cell? ⟨w.heap.size, 2, none⟩ = some (.string t.name) := mem_cell HBX.out 2
    clear hv hsz
    go_enter Tryd.func14, Tryd.ntmps14
    obtain ⟨bb, hbb⟩ : ∃ b, (t.kind == 46) = b := ⟨_, rfl⟩
    have HBB := Lib.hid hbb
    go_upto_if 7 with fail
    clear hbb
    obtain ⟨l0, hl0⟩ : ∃ l0 : List ByteArray, (if t.kind = 46 then [t.name] else []) = l0 := ⟨_, rfl⟩
    have HL0 := Lib.hid hl0
    clear hl0
    go_cut [3] from 8 to 12 (fun v w' => ∃ va vc, v = .slice va l0.length vc ∧ w'.ownsRow W.heap.size 9 1 (.slice va l0.length vc) l0.length (l0.map Value.string) ∧ Below W.heap.size W w')
    case first =>
      cases bb with
      | true =>
        have hk : t.kind = 46 := by simpa using HBB.out
        obtain rfl : l0 = [t.name] := by rw [← HL0.out, if_pos hk]
        clear hk
        go_wp2_with (at_builtin; refine wpList_append_src _ rfl (.tmp 8) (.tmp 11) 32 rfl W.heap.size 9 ti _ 1 16 Tryd.underlying32 hti hz0 hz1 hz2 rfl (by decide) (.slice none 0 0) 0 [] rfl (World.ownsRow_nil _ _ _ _) (some ⟨W.heap.size, 0, none⟩) 1 1 [.string t.name] rfl (one_src (cs := [.string t.name]) (n := 1) (mem_new _ _) rfl) (by simp [Value.oneCell']) (by unfold maxLen; omega) (by omega) (mem_alloc _ _).size ?_)
        intro v9 w9 hown9 hgrow9 _
        obtain ⟨A9, c9, rfl⟩ := own_val hown9
        have HO := Lib.hid hown9
        have HB : Hid (Below W.heap.size W w9) := (mem_alloc _ _).grown hgrow9 (mem_alloc _ _).size (fun k hk => by cases hk)
        clear hown9 hgrow9 hW
        go_wp2_with fail
        go_meet
        exact ⟨A9, c9, rfl, HO.out, HB.out⟩
      | false =>
        have hk : ¬ t.kind = 46 := by simpa using HBB.out
        obtain rfl : l0 = [] := by rw [← HL0.out, if_neg hk]
        clear hk hW
        go_wp2_with fail
        go_meet
        exact ⟨none, 0, rfl, World.ownsRow_nil _ _ _ _, Below.refl _ _⟩
    obtain ⟨va, vc, rfl, hown, hBc⟩ := hcut
    obtain ⟨X, hX⟩ : ∃ X : World, X = wc := ⟨_, rfl⟩
    rw [← hX] at hown hBc ⊢
    have HOWN := Lib.hid hown
    have HBC := Lib.hid hBc
    clear hX hown hBc y0 y2 hW
    go_wp2_with fail
    go_loopw [3, 4] (fun v iv wr => ∃ (j : Nat) (va : Option Addr) (vc : Nat), j ≤ t.len ∧ iv = .int .i64 (j : Int) ∧ v = .slice va (l0 ++ catTo (fun i => (t.kid i).locks) j).length vc ∧ wr.ownsRow W.heap.size 9 1 (.slice va (l0 ++ catTo (fun i => (t.kid i).locks) j).length vc) (l0 ++ catTo (fun i => (t.kid i).locks) j).length ((l0 ++ catTo (fun i => (t.kid i).locks) j).map Value.string) ∧ Below W.heap.size W wr) (fun _ iv _ => t.len - (intOf iv).toNat)
    case atStart => exact ⟨0, va, vc, Nat.zero_le _, rfl, by rw [show catTo (fun i => (t.kid i).locks) 0 = [] from rfl, List.append_nil], by rw [show catTo (fun i => (t.kid i).locks) 0 = [] from rfl, List.append_nil]; exact HOWN.out, HBC.out⟩
    case round =>
      clear HOWN HBC
      obtain ⟨j, va, vc, hj, rfl, rfl, hown, hB⟩ := hrel
      have HB := Lib.hid hB
      have hj0 : (0 : Int) ≤ (j : Int) := by omega
      have hx := mem_keep HBX.out hB
      have y3 : wr.cell? ⟨w.heap.size, 3, none⟩ = some (.slice a t.len c) := mem_cell hx 3
      have HLJ : Hid ((l0 ++ catTo (fun i => (t.kid i).locks) j).length ≤ t.size) := by
        have h1 := catTo_len (f := fun i => (t.kid i).locks) (g := fun i => (t.kid i).size) j (fun i _ => locks_len (t.kid i))
        have h2 : l0.length ≤ 1 := by rw [← HL0.out]; split <;> simp
        have h3 := Tree.sumTo_le (f := fun i => (t.kid i).size) hj
        have h4 := t.size_eq
        show _ ≤ _
        rw [List.length_append]
        omega
      obtain ⟨L, hL⟩ : ∃ L, l0 ++ catTo (fun i => (t.kid i).locks) j = L := ⟨_, rfl⟩
      have HL := Lib.hid hL
      rw [hL] at hown HLJ ⊢
      obtain ⟨n, hn⟩ : ∃ n, L.length = n := ⟨_, rfl⟩
      have HN := Lib.hid hn
      rw [hn] at hown HLJ ⊢
      have HOWN := Lib.hid hown
      clear hB hx hL hn hown
      by_cases hlt : j < t.len
      · have HLT : Hid (j < t.len) := hlt
        have hlt2 : (j : Int) < (t.len : Int) := by omega
        rcases HV.out.kids with h0 | ⟨b, off, rfl, hc⟩
        · omega
        obtain ⟨ai, ci, hnc, hr⟩ := hc j hlt
        have HBB2 := Lib.hid (mem_then HBW.out HB.out)
        obtain ⟨f0, f1, f2, f3⟩ := hnc.below HBB2.out hnc.lt
        have HSK : Hid ((t.kid j).size ≤ 1000000 ∧ n + (t.kid j).locks.length ≤ 1000000) := by
          have h1 := catTo_len (f := fun i => (t.kid i).locks) (g := fun i => (t.kid i).size) j (fun i _ => locks_len (t.kid i))
          have h2 : l0.length ≤ 1 := by rw [← HL0.out]; split <;> simp
          have h3 := Tree.sumTo_le (f := fun i => (t.kid i).size) (show j + 1 ≤ t.len from hlt)
          rw [Tree.sumTo_succ] at h3
          have h4 := t.size_eq
          have h5 := HSZ.out
          have h6 := locks_len (t.kid j)
          have h7 : n = l0.length + (catTo (fun i => (t.kid i).locks) j).length := by rw [← HN.out, ← HL.out, List.length_append]
          show _ ∧ _
          omega
        have HI := Lib.hid (IH.out j hlt)
        have HR := Lib.hid (hr.below HBB2.out)
        clear hc hnc hr hlt
        go_wp2_with fail
        refine (HI.out _ ai ci HR.out HSK.out.1).mono ?_
        rintro e w1 ⟨ka, kc, rfl, hko, hB1⟩
        have HKO := Lib.hid hko
        have HBK := Lib.hid hB1
        have HB1 := Lib.hid (mem_then HB.out hB1)
        obtain ⟨M, hM⟩ : ∃ M, (t.kid j).locks = M := ⟨_, rfl⟩
        have HM := Lib.hid hM
        rw [hM] at HKO HSK ⊢
        obtain ⟨m, hm⟩ : ∃ m, M.length = m := ⟨_, rfl⟩
        have HMM := Lib.hid hm
        rw [hm] at HKO HSK ⊢
        clear hko hB1 hM hm f0 f1 f2 f3 y3 HI
        go_wp2_with (at_builtin; refine wpList_append_src _ rfl (.tmp 20) (.tmp 26) 32 rfl W.heap.size 9 ti _ 1 16 Tryd.underlying32 hti hz0 hz1 hz2 rfl (by decide) (.slice va n vc) n (L.map Value.string) rfl (own_below HOWN.out HBK.out) ka m kc (M.map Value.string) rfl (own_src HKO.out) (fun u hu => by obtain ⟨s, _, rfl⟩ := List.mem_map.1 hu; rfl) (by have := HSK.out.2; unfold maxLen; omega) (by have := HSK.out.2; omega) HB1.out.size ?_)
        intro v9 w9 hown9 hgrow9 _
        obtain ⟨A9, c9, rfl⟩ := own_val hown9
        have HLX : Hid (l0 ++ catTo (fun i => (t.kid i).locks) (j + 1) = L ++ M) := by
          show l0 ++ (catTo (fun i => (t.kid i).locks) j ++ (t.kid j).locks) = _
          rw [← List.append_assoc, HL.out, HM.out]
        have HLY : Hid ((L ++ M).length = n + m) := by show _ = _; rw [List.length_append, HN.out, HMM.out]
        have HO : Hid (w9.ownsRow W.heap.size 9 1 (.slice A9 (n + m) c9) (n + m) ((L ++ M).map Value.string)) := by show World.ownsRow _ _ _ _ _ _ _; rw [List.map_append]; exact hown9
        have HB9 : Hid (Below W.heap.size W w9) := HB1.out.grown hgrow9 HB1.out.size (fun k hk => (own_lt HOWN.out hk).1)
        clear hown9 hgrow9
        go_wp2_with fail
        go_roundw
        case rel => exact ⟨j + 1, A9, c9, by have := HLT.out; omega, by go_num, by rw [HLX.out, HLY.out], by rw [HLX.out, HLY.out]; exact HO.out, HB9.out⟩
        case measure => have := HLT.out; simp [intOf]; omega
      · obtain rfl : j = t.len := by omega
        have HE : Hid (t.locks = L) := by show _ = _; rw [HLK.out, HL0.out]; exact HL.out
        go_wp2_with fail
        go_ret
        refine ⟨va, vc, ?_, ?_, mem_then HBW.out HB.out⟩
        · rw [HE.out, HN.out]; rfl
        · rw [HE.out, HN.out]; exact own_down HOWN.out HBW.out.size
end Go.Proofs.YtkpdngfkdmllkaaDoor

/-
  LowerLocks (package ontimelaw18): Lock and Unlock occur once for each Lock statement, with its object.
-/
namespace Go.Proofs.YtkpdngfkdmllkaaDoor
set_option linter.unusedVariables false
set_option linter.unusedSimpArgs false
open Go.RowKit Go.Maps
set_option maxRecDepth 100000
set_option maxHeartbeats 8000000

/-- a map that counts -/
def CntAt (w : World) (b n : Nat) (g : ByteArray → Nat) : Prop := ∃ f, FMap Tryd.prog LKey w b n f ∧ ∀ s, (f s).getD (.int .i64 0) = .int .i64 (g s : Nat)
theorem CntAt.lt {w : World} {b n : Nat} {g : ByteArray → Nat} (h : CntAt w b n g) : b < w.heap.size := by obtain ⟨f, h1, _⟩ := h; exact h1.lt
theorem CntAt.obj {w : World} {b n : Nat} {g : ByteArray → Nat} (h : CntAt w b n g) : ∃ es ck, w.heap[b]? = some (.map es ck) := by obtain ⟨f, h1, _⟩ := h; exact h1.obj
theorem CntAt.move {w w' : World} {b n : Nat} {g : ByteArray → Nat} (h : CntAt w b n g) (hb : w'.heap[b]? = w.heap[b]?) : CntAt w' b n g := by obtain ⟨f, h1, h2⟩ := h; exact ⟨f, h1.move hb, h2⟩
theorem CntAt.below {w w' : World} {b n : Nat} {g : ByteArray → Nat} (h : CntAt w b n g) (hb : Below w.heap.size w w') : CntAt w' b n g := h.move (hb.block b h.lt)
theorem CntAt.made (w : World) : CntAt (w.alloc (.map #[] 0)) w.heap.size 0 (fun _ => 0) := ⟨fun _ => none, FMap.made _ _ _, fun _ => rfl⟩
theorem CntAt.look {w : World} {b n : Nat} {g : ByteArray → Nat} (h : CntAt w b n g) {s : ByteArray} (hs : s.size ≤ 9223372036854775807) : (Instr.lookup 52 (.map (some b)) (.string s) false).run Tryd.prog w = .ok (.int .i64 (g s : Nat)) w := by
  obtain ⟨f, h1, h2⟩ := h
  have h3 := h1.run lKey Tryd.underlying52 (zero_int w) (s := s) hs
  rw [h2 s] at h3
  exact h3
theorem CntAt.bump {w : World} {b n : Nat} {g : ByteArray → Nat} (h : CntAt w b n g) {s : ByteArray} (hs : s.size ≤ 9223372036854775807) (hn : n ≤ 1000000) :
    ∃ w', (Instr.mapUpdate 52 (.map (some b)) (.string s) (.int .i64 ((g s : Nat) + 1 : Int))).run Tryd.prog w = .ok () w' ∧ CntAt w' b (n + 1) (fun t => g t + if s = t then 1 else 0) ∧ w.grownBy w' (some b) := by
  obtain ⟨f, h1, h2⟩ := h
  obtain ⟨w', r1, r2, r3⟩ := h1.store (t := 52) lKey Tryd.underlying52 (s := s) hs (by unfold maxLen; omega) (.int .i64 ((g s : Nat) + 1 : Int))
  refine ⟨w', r1, ⟨_, r2, fun t => ?_⟩, r3⟩
  unfold upd
  show (if t = s then some (Value.int .i64 ((g s : Nat) + 1 : Int)) else f t).getD (.int .i64 0) = .int .i64 ((g t + if s = t then 1 else 0 : Nat) : Int)
  by_cases he : t = s
  · subst he; rw [if_pos rfl, if_pos rfl]; rfl
  · rw [if_neg he, if_neg (show ¬ s = t from fun e => he e.symm), Nat.add_zero]; exact h2 t
/-- how often a name stands in a list -/
def cntN (l : List ByteArray) (s : ByteArray) : Nat := l.countP (fun x => decide (x = s))
theorem cntN_snoc (l : List ByteArray) (x : ByteArray) : cntN (l ++ [x]) = fun t => cntN l t + if x = t then 1 else 0 := by
  funext t
  unfold cntN
  rw [List.countP_append, List.countP_singleton]
  by_cases h : x = t <;> simp [h]
theorem cntN_le (l : List ByteArray) (s : ByteArray) : cntN l s ≤ l.length := List.countP_le_length
theorem locks_small : ∀ (t : Tree) (w : World) (a : Option Addr), Rep w t a → ∀ s ∈ t.locks, s.size ≤ 9223372036854775807 := by
  intro t
  induction t using Tree.ind with
  | h t ih =>
    intro w a hv s hs
    rw [Tree.locks_eq, List.mem_append] at hs
    rcases hs with hs | hs
    · by_cases hk : t.kind = 46
      · rw [if_pos hk] at hs
        obtain rfl := List.mem_singleton.1 hs
        exact hv.fits.name
      · rw [if_neg hk] at hs; cases hs
    · have key : ∀ n, n ≤ t.len → s ∈ catTo (fun i => (t.kid i).locks) n → s.size ≤ 9223372036854775807 := by
        intro n
        induction n with
        | zero => intro _ h; cases h
        | succ n ihn =>
          intro hn h
          rcases List.mem_append.1 h with h | h
          · exact ihn (by omega) h
          · rcases hv.kids with h0 | ⟨b, off, _, hc⟩
            · omega
            · obtain ⟨ai, ci, _, hr⟩ := hc n (by omega)
              exact ih n (by omega) w ai hr s h
      exact key t.len (Nat.le_refl _) hs
/-- the instructions that answer in blocks -/
def cB (f : Ins → Bool) (l : List Blk) : Nat := (l.map (fun b => b.code.countP f)).sum
theorem cB_next {f : Ins → Bool} {l : List Blk} {j : Nat} {b : Blk} (h : l[j]? = some b) : cB f (l.take (j + 1)) = cB f (l.take j) + b.code.countP f := by
  unfold cB
  rw [List.take_add_one, h, List.map_append, List.sum_append]
  simp
theorem cB_le {f : Ins → Bool} {l : List Blk} {j : Nat} : cB f (l.take j) ≤ cB f l := by
  unfold cB
  have h : (l.map (fun b => b.code.countP f)).sum = ((l.take j).map (fun b => b.code.countP f)).sum + ((l.drop j).map (fun b => b.code.countP f)).sum := by
    rw [← List.sum_append, ← List.map_append, List.take_append_drop]
  omega
theorem cB_at {f : Ins → Bool} {l : List Blk} {j m : Nat} {b : Blk} (h : l[j]? = some b) : cB f (l.take j) + (b.code.take m).countP f ≤ cB f l := by
  have h1 := cB_next (f := f) h
  have h2 := cB_le (f := f) (l := l) (j := j + 1)
  have h3 : (b.code.take m).countP f ≤ b.code.countP f := (List.take_sublist m b.code).countP_le
  omega
theorem code_next {f : Ins → Bool} {l : List Ins} {m : Nat} {c : Ins} (h : l[m]? = some c) : (l.take (m + 1)).countP f = (l.take m).countP f + if f c then 1 else 0 := by
  rw [List.take_add_one, h, List.countP_append]
  simp [List.countP_cons]
/-- the three maps that count -/
def LkSt (V : World) (vb lb ub n : Nat) (L : List ByteArray) (n1 n2 : Nat) (g1 g2 : ByteArray → Nat) (w' : World) : Prop := CntAt w' lb n1 g1 ∧ CntAt w' ub n2 g2 ∧ CntAt w' vb n (cntN L) ∧ Below V.heap.size V w'
section
variable {V : World} {vb lb ub n n1 n2 : Nat} {L : List ByteArray} {g1 g2 : ByteArray → Nat} {w w' : World}
theorem LkSt.keep (h : LkSt V vb lb ub n L n1 n2 g1 g2 w) (hB : Below w.heap.size w w') : LkSt V vb lb ub n L n1 n2 g1 g2 w' := ⟨h.1.below hB, h.2.1.below hB, h.2.2.1.below hB, h.2.2.2.trans (hB.mono h.2.2.2.size)⟩
theorem LkSt.lock (h : LkSt V vb lb ub n L n1 n2 g1 g2 w) {s : ByteArray} (hs : s.size ≤ 9223372036854775807) (hn : n1 ≤ 1000000) (h1 : ub ≠ lb) (h2 : vb ≠ lb) (h3 : V.heap.size ≤ lb) :
    ∃ w', (Instr.mapUpdate 52 (.map (some lb)) (.string s) (.int .i64 ((g1 s : Nat) + 1 : Int))).run Tryd.prog w = .ok () w' ∧ LkSt V vb lb ub n L (n1 + 1) n2 (fun t => g1 t + if s = t then 1 else 0) g2 w' := by
  obtain ⟨w', r1, r2, r3⟩ := h.1.bump hs hn
  exact ⟨w', r1, r2, h.2.1.move (r3.block _ h.2.1.lt (fun e => h1 (Option.some.inj e))), h.2.2.1.move (r3.block _ h.2.2.1.lt (fun e => h2 (Option.some.inj e))), h.2.2.2.grown r3 h.2.2.2.size (fun k hk => by cases hk; exact h3)⟩
theorem LkSt.unlock (h : LkSt V vb lb ub n L n1 n2 g1 g2 w) {s : ByteArray} (hs : s.size ≤ 9223372036854775807) (hn : n2 ≤ 1000000) (h1 : lb ≠ ub) (h2 : vb ≠ ub) (h3 : V.heap.size ≤ ub) :
    ∃ w', (Instr.mapUpdate 52 (.map (some ub)) (.string s) (.int .i64 ((g2 s : Nat) + 1 : Int))).run Tryd.prog w = .ok () w' ∧ LkSt V vb lb ub n L n1 (n2 + 1) g1 (fun t => g2 t + if s = t then 1 else 0) w' := by
  obtain ⟨w', r1, r2, r3⟩ := h.2.1.bump hs hn
  exact ⟨w', r1, h.1.move (r3.block _ h.1.lt (fun e => h1 (Option.some.inj e))), r2, h.2.2.1.move (r3.block _ h.2.2.1.lt (fun e => h2 (Option.some.inj e))), h.2.2.2.grown r3 h.2.2.2.size (fun k hk => by cases hk; exact h3)⟩
end
theorem lowerLocks_any (p : Prg) (k : Int) (w : World) (sa ta : Option Addr) (sc tc : Nat) (hp : PrgAt w p sa ta) (hg : SignsIn w) (hk : isI64 k) :
    Calls Tryd.prog 5 #[p.val sa sc ta tc, .int .i64 k] w fun e w' => e = .returned (.bool true) ∧ Below w.heap.size w w' := by
  have htl := hp.2.1
  have HKK := Lib.hid hk
  have hk1 := hk.1
  have hk2 := hk.2
  obtain ⟨A0, h0⟩ : ∃ A0 : World, w.alloc (prgObj p sa sc ta tc) = A0 := ⟨_, rfl⟩
  have HB0 : Hid (Below w.heap.size w A0) := by show Below _ _ _; rw [← h0]; exact mem_alloc _ _
  have HX0 : Hid (A0.heap[w.heap.size]? = some (prgObj p sa sc ta tc)) := by show _ = _; rw [← h0]; exact mem_new _ _
  have HK : Hid (∀ w', Below A0.heap.size A0 w' → w'.heap[w.heap.size]? = some (prgObj p sa sc ta tc) ∧ PrgAt w' p sa ta ∧ Below w.heap.size w w' ∧ SignsIn w') := fun w' h =>
    ⟨mem_keep HX0.out h, hp.below (mem_then HB0.out h), mem_then HB0.out h, hg.below (mem_then HB0.out h)⟩
  clear hp hg hk
  go_enter Tryd.func5, Tryd.ntmps5
  go_wp2_with fail
  clear h0
  refine (lawake_any A0 (HK.out A0 (Below.refl _ _)).2.2.2).mono ?_
  rintro e w1 ⟨rfl, hB1⟩
  have HB1 := Lib.hid hB1
  have y0 : w1.cell? ⟨w.heap.size, 0, none⟩ = some (.slice sa p.shared.length sc) := mem_cell (HK.out w1 hB1).1 0
  have y1 : w1.cell? ⟨w.heap.size, 1, none⟩ = some (.slice ta p.tasks.length tc) := mem_cell (HK.out w1 hB1).1 1
  clear hB1
  go_wp2_with fail
  clear y0 y1
  refine (translated_fn p k w1 sa ta sc tc (HK.out w1 HB1.out).2.1 (HK.out w1 HB1.out).2.2.2 HKK.out).mono ?_
  rintro e w2 ⟨F, b, aa, ac, ba, bc, rfl, hfn, hB2, hyes⟩
  have HB2 := Lib.hid (mem_then HB1.out hB2)
  obtain ⟨an, hn1⟩ : ∃ n, F.arrays.length = n := ⟨_, rfl⟩
  obtain ⟨bn, hn2⟩ : ∃ n, F.blocks.length = n := ⟨_, rfl⟩
  have HNN : Hid (F.arrays.length = an ∧ F.blocks.length = bn) := ⟨hn1, hn2⟩
  simp only [hn1, hn2]
  obtain ⟨V, hV⟩ : ∃ X : World, w2.alloc (fnObj F.name F.regs (.slice aa an ac) (.slice ba bn bc)) = X := ⟨_, rfl⟩
  have HV0 : Hid (Below w2.heap.size w2 V) := by show Below _ _ _; rw [← hV]; exact mem_alloc _ _
  have HVX : Hid (V.heap[w2.heap.size]? = some (fnObj F.name F.regs (.slice aa an ac) (.slice ba bn bc))) := by show _ = _; rw [← hV]; exact mem_new _ _
  have HFN := Lib.hid (hfn.at_.below HV0.out)
  have HV := Lib.hid (mem_then HB2.out HV0.out)
  clear hfn hB2 hn1 hn2
  cases b with
  | false =>
    clear hyes
    go_wp2_with fail
    go_ret
    exact ⟨rfl, (HK.out V HV.out).2.2.1⟩
  | true =>
  obtain ⟨hok, ⟨hk0, hkl⟩, hF⟩ := hyes rfl
  have HOK := Lib.hid hok
  have HF := Lib.hid hF
  obtain ⟨j, rfl⟩ : ∃ j : Nat, k = (j : Int) := ⟨k.toNat, by omega⟩
  have hj : j < p.tasks.length := by omega
  have HJ := Lib.hid hj
  obtain ⟨tb, to', q, rfl, htc, htin⟩ := (HK.out V HV.out).2.1.2.2 j hj
  obtain ⟨t, ht⟩ : ∃ t, p.tasks.getD j Tsk.none = t := ⟨_, rfl⟩
  have HT := Lib.hid ht
  rw [ht] at htc htin
  have HTI := Lib.hid htin
  have hmm := @run_makeMap Tryd.prog
  obtain ⟨M0, hM0⟩ : ∃ X : World, V.alloc (.map #[] 0) = X := ⟨_, rfl⟩
  have HBM : Hid (Below V.heap.size V M0) := by show Below _ _ _; rw [← hM0]; exact mem_alloc _ _
  have HFM : Hid (FMap Tryd.prog LKey M0 V.heap.size 0 (fun _ => none)) := by show FMap _ _ _ _ _ _; rw [← hM0]; exact FMap.made _ _ _
  have HM0 := Lib.hid (mem_then HV.out HBM.out)
  obtain ⟨⟨g0, g1, g2, g3, g4, g5, g6, g7⟩, _⟩ := tsk_cells HBM.out htc
  have y1 : M0.cell? ⟨w.heap.size, 1, none⟩ = some (.slice (some ⟨tb, to', none⟩) p.tasks.length tc) := mem_cell (HK.out M0 HM0.out).1 1
  have htv := (prgOk_le (okP_ok HOK.out)).2.2 j hj
  rw [HT.out] at htv
  have HTV := Lib.hid htv
  clear hyes hok hF htc htin ht htv
  go_wp2_with fail
  clear hM0 g0 g1 g2 g3 g4 g5 g6 g7 y1
  refine (locks_any t.body M0 q.ka q.kc (HTI.out.body.below HBM.out) (by have := (tskOk_le HTV.out).2.2; omega)).mono ?_
  rintro e w4 ⟨va, vc, rfl, hown, hB4⟩
  have HOWN := Lib.hid hown
  have HB40 := Lib.hid hB4
  have HB4 := Lib.hid (mem_then HM0.out hB4)
  have HFM4 := Lib.hid (HFM.out.below hB4)
  clear hown hB4
  go_wp2_with fail
  have HLL : Hid (t.body.locks.length ≤ 10000) := Nat.le_trans (Nat.le_trans (locks_len _) (tskOk_le HTV.out).2.2) (by decide)
  have HLZ : Hid (∀ s ∈ t.body.locks, s.size ≤ 9223372036854775807) := locks_small _ _ _ HTI.out.body
  have HC4 : Hid (CntAt w4 V.heap.size 0 (fun _ => 0)) := ⟨_, HFM4.out, fun _ => rfl⟩
  have HVM : Hid (V.heap.size < M0.heap.size) := HFM.out.lt
  obtain ⟨L, hL⟩ : ∃ L, t.body.locks = L := ⟨_, rfl⟩
  have HLE := Lib.hid hL
  rw [hL] at HOWN HLL HLZ ⊢
  obtain ⟨n, hn⟩ : ∃ n, L.length = n := ⟨_, rfl⟩
  have HN := Lib.hid hn
  rw [hn] at HOWN HLL ⊢
  have hvn : n ≤ 10000 := HLL.out
  clear hL hn
  go_loopw [37] (fun iv wr => ∃ j : Nat, j ≤ n ∧ iv = .int .i64 (j : Int) ∧ CntAt wr V.heap.size j (cntN (L.take j)) ∧ w4.grownBy wr (some V.heap.size)) (fun iv _ => n - (intOf iv).toNat)
  case atStart => exact ⟨0, Nat.zero_le _, rfl, HC4.out, World.grownBy.refl _ _⟩
  case round =>
    obtain ⟨i, hi, rfl, hct, hgr⟩ := hrel
    have HGR := Lib.hid hgr
    have HCT := Lib.hid hct
    have hi0 : (0 : Int) ≤ (i : Int) := by omega
    clear hct hgr
    by_cases hlt : i < n
    · have HLT : Hid (i < n) := hlt
      have hlt2 : (i : Int) < (n : Int) := by omega
      obtain ⟨s, hs⟩ : ∃ s, L[i]? = some s := ⟨_, List.getElem?_eq_getElem (by rw [HN.out]; exact hlt)⟩
      have HSS := Lib.hid (HLZ.out s (List.mem_of_getElem? hs))
      have hne : (Value.slice va n vc).ownBlock ≠ some V.heap.size := fun e => by have := (own_lt HOWN.out e).1; have := HVM.out; omega
      have how := own_keep (w' := wr) HOWN.out (fun k hk hl => HGR.out.block k hl (fun e => hne (hk.trans (by rw [← e]))))
      obtain ⟨sb, rfl, _, _⟩ := own_at how (by omega)
      have r0 : wr.cell? ⟨sb, i, none⟩ = some (.string s) := own_cell how (by rw [List.getElem?_map, hs]; rfl)
      have hlk := HCT.out.look HSS.out
      obtain ⟨w6, hup, hct6, hgr6⟩ := HCT.out.bump HSS.out (by omega)
      have hck := cntN_le (L.take i) s
      have hck2 : (L.take i).length ≤ n := by rw [List.length_take]; omega
      have HNX : Hid (cntN (L.take (i + 1)) = fun t => cntN (L.take i) t + if s = t then 1 else 0) := by
        show _ = _
        rw [List.take_add_one, hs]
        exact cntN_snoc _ _
      obtain ⟨k0, hk0⟩ : ∃ k, cntN (L.take i) s = k := ⟨_, rfl⟩
      rw [hk0] at hlk hup hck
      have HC6 := Lib.hid hct6
      have HG6 := Lib.hid (HGR.out.trans hgr6)
      have hk1 : k0 ≤ 10000 := by omega
      clear hct6 hgr6 hk0 hs how hne hlt hck hck2
      go_wp2_with fail
      go_roundw
      case rel => exact ⟨i + 1, by have := HLT.out; omega, by go_num, by rw [HNX.out]; exact HC6.out, HG6.out⟩
      case measure => have := HLT.out; simp [intOf]; omega
    · obtain rfl : i = n := by omega
      clear hlt
      obtain ⟨X1, hX1⟩ : ∃ X : World, wr.alloc (.map #[] 0) = X := ⟨_, rfl⟩
      obtain ⟨X2, hX2⟩ : ∃ X : World, X1.alloc (.map #[] 0) = X := ⟨_, rfl⟩
      have HB1' : Hid (Below wr.heap.size wr X1) := by show Below _ _ _; rw [← hX1]; exact mem_alloc _ _
      have HB2' : Hid (Below X1.heap.size X1 X2) := by show Below _ _ _; rw [← hX2]; exact mem_alloc _ _
      have HS1 : Hid (X1.heap.size = wr.heap.size + 1) := by show _ = _; rw [← hX1]; simp
      have HCL : Hid (CntAt X2 wr.heap.size 0 (fun _ => 0)) := by
        have h9 := CntAt.made wr
        rw [hX1] at h9
        exact h9.below HB2'.out
      have HCU : Hid (CntAt X2 X1.heap.size 0 (fun _ => 0)) := by
        have h9 := CntAt.made X1
        rw [hX2] at h9
        exact h9
      have HCC : Hid (CntAt X2 V.heap.size i (cntN L)) := by
        have h9 := HCT.out
        rw [show L.take i = L from by rw [← HN.out, List.take_length]] at h9
        exact (h9.below HB1'.out).below HB2'.out
      have HBX : Hid (Below V.heap.size V X2) := ((HBM.out.trans (HB40.out.mono HBM.out.size)).grown HGR.out (Nat.le_trans HBM.out.size HB40.out.size) (fun k hk => by cases hk; exact Nat.le_refl _)).trans ((mem_then HB1'.out HB2'.out).mono (Nat.le_trans HBM.out.size (Nat.le_trans HB40.out.size HGR.out.size)))
      obtain ⟨v0, v1, v2, v3, _⟩ := fn_four (mem_keep HVX.out HBX.out)
      have HVW : Hid (V.heap.size < wr.heap.size) := Nat.lt_of_lt_of_le HVM.out (Nat.le_trans HB40.out.size HGR.out.size)
      have HNE : Hid (X1.heap.size ≠ wr.heap.size ∧ V.heap.size ≠ wr.heap.size ∧ V.heap.size ≠ X1.heap.size ∧ V.heap.size ≤ wr.heap.size ∧ V.heap.size ≤ X1.heap.size) := by have := HS1.out; have := HVW.out; show _ ∧ _; omega
      have HST : Hid (LkSt V V.heap.size wr.heap.size X1.heap.size i L 0 0 (fun _ => 0) (fun _ => 0) X2) := ⟨HCL.out, HCU.out, HCC.out, HBX.out⟩
      have HTOT : Hid (∀ f P, CntF f P → cB f F.blocks ≤ 10000) := fun f P hf => by
        have h1 := lowFn_few hf p.shared t (tskOk_body HTV.out)
        rw [HF.out, Int.toNat_natCast, HT.out]
        have h2 := HLL.out
        rw [HLE.out, HN.out] at h1
        exact Nat.le_trans h1 h2
      obtain ⟨lb, hlb⟩ : ∃ k, wr.heap.size = k := ⟨_, rfl⟩
      obtain ⟨ub, hub⟩ : ∃ k, X1.heap.size = k := ⟨_, rfl⟩
      have HLB := Lib.hid (And.intro hlb hub)
      go_wp2_with fail
      clear hX1 hX2 v0 v1 v2 v3
      rw [HLB.out.1, HLB.out.2] at HST HNE
      try rw [HLB.out.1]
      try rw [HLB.out.2]
      clear hlb hub
      have hbi : bn ≤ 9223372036854775807 := by rw [← HNN.out.2]; exact HFN.out.blocks.fits
      go_loopw [51] (fun iv wr => ∃ a : Nat, a ≤ bn ∧ iv = .int .i64 (a : Int) ∧ LkSt V V.heap.size lb ub i L (cB (opA 11) (F.blocks.take a)) (cB (opA 12) (F.blocks.take a)) (fun s => cB (opS 11 s) (F.blocks.take a)) (fun s => cB (opS 12 s) (F.blocks.take a)) wr) (fun iv _ => bn - (intOf iv).toNat)
      case atStart => exact ⟨0, Nat.zero_le _, rfl, HST.out⟩
      case round =>
        clear HST
        obtain ⟨a, ha, rfl, hst⟩ := hrel
        have HST := Lib.hid hst
        have ha0 : (0 : Int) ≤ (a : Int) := by omega
        clear hst
        by_cases hat : a < bn
        · have HAT : Hid (a < bn) := hat
          have hat2 : (a : Int) < (bn : Int) := by omega
          obtain ⟨x, hx⟩ : ∃ x, F.blocks[a]? = some x := ⟨_, List.getElem?_eq_getElem (by rw [HNN.out.2]; exact hat)⟩
          have HX := Lib.hid hx
          rcases HFN.out.blocks.at_ with h0 | ⟨gb, go', rfl, hcs⟩
          · exfalso; rw [HNN.out.2] at h0; omega
          obtain ⟨ca, cc, ⟨e0, e1, e2, e3, e4⟩, hcode⟩ := hcs a x hx
          have c0 := cell_below HST.out.2.2.2 e0
          have c1 := cell_below HST.out.2.2.2 e1
          have c2 := cell_below HST.out.2.2.2 e2
          have c3 := cell_below HST.out.2.2.2 e3
          have c4 := cell_below HST.out.2.2.2 e4
          clear e0 e1 e2 e3 e4
          obtain ⟨nc, hnc⟩ : ∃ k, x.code.length = k := ⟨_, rfl⟩
          have HNC := Lib.hid hnc
          rw [hnc] at c0
          obtain ⟨D, hD⟩ : ∃ D : World, wr.alloc (.cells #[.slice ca nc cc, .int .u8 x.kind, .int .i64 x.x, .int .i64 x.to, .int .i64 x.els] 46) = D := ⟨_, rfl⟩
          have hBD : Below wr.heap.size wr D := by rw [← hD]; exact mem_alloc _ _
          have hXD : D.heap[wr.heap.size]? = some (.cells #[.slice ca nc cc, .int .u8 x.kind, .int .i64 x.x, .int .i64 x.to, .int .i64 x.els] 46) := by rw [← hD]; exact mem_new _ _
          have d0 : D.cell? ⟨wr.heap.size, 0, none⟩ = some (.slice ca nc cc) := mem_cell hXD 0
          have HSD := Lib.hid (HST.out.keep hBD)
          have HCODE := Lib.hid hcode
          have hci : nc ≤ 9223372036854775807 := by rw [← hnc]; exact hcode.fits
          have HSD0 : Hid (LkSt V V.heap.size lb ub i L (cB (opA 11) (F.blocks.take a) + (x.code.take 0).countP (opA 11)) (cB (opA 12) (F.blocks.take a) + (x.code.take 0).countP (opA 12)) (fun s => cB (opS 11 s) (F.blocks.take a) + (x.code.take 0).countP (opS 11 s)) (fun s => cB (opS 12 s) (F.blocks.take a) + (x.code.take 0).countP (opS 12 s)) D) := HSD.out
          clear hx hcs hcode hnc hBD hXD hat HST
          go_wp2_with fail
          clear c0 c1 c2 c3 c4 d0 hD
          go_loopw [58] (fun iv wx => ∃ m : Nat, m ≤ nc ∧ iv = .int .i64 (m : Int) ∧ LkSt V V.heap.size lb ub i L (cB (opA 11) (F.blocks.take a) + (x.code.take m).countP (opA 11)) (cB (opA 12) (F.blocks.take a) + (x.code.take m).countP (opA 12)) (fun s => cB (opS 11 s) (F.blocks.take a) + (x.code.take m).countP (opS 11 s)) (fun s => cB (opS 12 s) (F.blocks.take a) + (x.code.take m).countP (opS 12 s)) wx) (fun iv _ => nc - (intOf iv).toNat)
          case atStart => exact ⟨0, Nat.zero_le _, rfl, HSD0.out⟩
          case round =>
            clear HSD0 HSD
            obtain ⟨m, hm, rfl, hst⟩ := hrel
            have HST := Lib.hid hst
            have hm0 : (0 : Int) ≤ (m : Int) := by omega
            clear hst
            by_cases hmt : m < nc
            · have HMT : Hid (m < nc) := hmt
              have hmt2 : (m : Int) < (nc : Int) := by omega
              obtain ⟨c, hc⟩ : ∃ c, x.code[m]? = some c := ⟨_, List.getElem?_eq_getElem (by rw [HNC.out]; exact hmt)⟩
              have HC := Lib.hid hc
              have HWF := Lib.hid (HCODE.out.wf c (List.mem_of_getElem? hc))
              rcases HCODE.out.at_ with h0 | ⟨gc, gf, rfl, hcs⟩
              · exfalso; rw [HNC.out] at h0; omega
              obtain ⟨e0, e1, e2, e3, e4, e5⟩ := hcs m c hc
              have c0 := cell_below HST.out.2.2.2 e0
              have c1 := cell_below HST.out.2.2.2 e1
              have c2 := cell_below HST.out.2.2.2 e2
              have c3 := cell_below HST.out.2.2.2 e3
              have c4 := cell_below HST.out.2.2.2 e4
              have c5 := cell_below HST.out.2.2.2 e5
              obtain ⟨E, hE⟩ : ∃ E : World, wr.alloc (.cells #[.int .u8 c.op, .int .i64 c.dst, .int .i64 c.x, .int .i64 c.y, .int .i64 c.imm, .string c.sym] 48) = E := ⟨_, rfl⟩
              have hBE : Below wr.heap.size wr E := by rw [← hE]; exact mem_alloc _ _
              have hXE : E.heap[wr.heap.size]? = some (.cells #[.int .u8 c.op, .int .i64 c.dst, .int .i64 c.x, .int .i64 c.y, .int .i64 c.imm, .string c.sym] 48) := by rw [← hE]; exact mem_new _ _
              have b0 : E.cell? ⟨wr.heap.size, 0, none⟩ = some (.int .u8 c.op) := mem_cell hXE 0
              have b5 : E.cell? ⟨wr.heap.size, 5, none⟩ = some (.string c.sym) := mem_cell hXE 5
              have HSE := Lib.hid (HST.out.keep hBE)
              have HN11 := Lib.hid (code_next (f := opA 11) hc)
              have HN12 := Lib.hid (code_next (f := opA 12) hc)
              have HS11 : Hid (∀ s, (x.code.take (m + 1)).countP (opS 11 s) = (x.code.take m).countP (opS 11 s) + if opS 11 s c then 1 else 0) := fun s => code_next hc
              have HS12 : Hid (∀ s, (x.code.take (m + 1)).countP (opS 12 s) = (x.code.take m).countP (opS 12 s) + if opS 12 s c then 1 else 0) := fun s => code_next hc
              have HTA : Hid (cB (opA 11) (F.blocks.take a) + (x.code.take m).countP (opA 11) ≤ 10000 ∧ cB (opA 12) (F.blocks.take a) + (x.code.take m).countP (opA 12) ≤ 10000) := ⟨Nat.le_trans (cB_at HX.out) (HTOT.out _ _ cnt_locks), Nat.le_trans (cB_at HX.out) (HTOT.out _ _ cnt_unlocks)⟩
              have HTS : Hid (cB (opS 11 c.sym) (F.blocks.take a) + (x.code.take m).countP (opS 11 c.sym) ≤ 10000 ∧ cB (opS 12 c.sym) (F.blocks.take a) + (x.code.take m).countP (opS 12 c.sym) ≤ 10000) := ⟨Nat.le_trans (cB_at HX.out) (HTOT.out _ _ (cnt_lock c.sym)), Nat.le_trans (cB_at HX.out) (HTOT.out _ _ (cnt_unlock c.sym))⟩
              clear hc hcs e0 e1 e2 e3 e4 e5 hBE hXE hmt HST
              by_cases k11 : c.op = 11
              · have k11d : (c.op == 11) = true := by simpa using k11
                have hlk := HSE.out.1.look HWF.out.sym
                obtain ⟨w6, hup, hst6⟩ := HSE.out.lock (s := c.sym) HWF.out.sym (by have := HTA.out.1; omega) HNE.out.1 HNE.out.2.1 HNE.out.2.2.2.1
                obtain ⟨k0, hk0⟩ : ∃ k, cB (opS 11 c.sym) (F.blocks.take a) + (x.code.take m).countP (opS 11 c.sym) = k := ⟨_, rfl⟩
                have hk1 : k0 ≤ 10000 := by rw [← hk0]; exact HTS.out.1
                simp only [hk0] at hlk hup
                have HSX : Hid (LkSt V V.heap.size lb ub i L (cB (opA 11) (F.blocks.take a) + (x.code.take (m + 1)).countP (opA 11)) (cB (opA 12) (F.blocks.take a) + (x.code.take (m + 1)).countP (opA 12)) (fun s => cB (opS 11 s) (F.blocks.take a) + (x.code.take (m + 1)).countP (opS 11 s)) (fun s => cB (opS 12 s) (F.blocks.take a) + (x.code.take (m + 1)).countP (opS 12 s)) w6) := by
                  show LkSt _ _ _ _ _ _ _ _ _ _ _
                  rw [HN11.out, HN12.out]
                  simp only [HS11.out, HS12.out]
                  simp only [opA, opS, k11, decide_true, Bool.true_and, if_true, show decide ((11 : Int) = 12) = false from rfl, Bool.false_and, Bool.false_eq_true, if_false, Nat.add_zero, decide_eq_true_eq]
                  simpa only [Nat.add_assoc] using hst6
                clear hst6 hk0 k11
                go_wp2_with fail
                clear c0 c1 c2 c3 c4 c5 b0 b5 hE hlk hup
                go_roundw
                case rel => exact ⟨m + 1, by have := HMT.out; omega, by go_num, HSX.out⟩
                case measure => have := HMT.out; simp [intOf]; omega
              have k11d : (c.op == 11) = false := by simpa using k11
              by_cases k12 : c.op = 12
              · have k12d : (c.op == 12) = true := by simpa using k12
                have hlk := HSE.out.2.1.look HWF.out.sym
                obtain ⟨w6, hup, hst6⟩ := HSE.out.unlock (s := c.sym) HWF.out.sym (by have := HTA.out.2; omega) (fun e => HNE.out.1 e.symm) HNE.out.2.2.1 HNE.out.2.2.2.2
                obtain ⟨k0, hk0⟩ : ∃ k, cB (opS 12 c.sym) (F.blocks.take a) + (x.code.take m).countP (opS 12 c.sym) = k := ⟨_, rfl⟩
                have hk1 : k0 ≤ 10000 := by rw [← hk0]; exact HTS.out.2
                simp only [hk0] at hlk hup
                have HSX : Hid (LkSt V V.heap.size lb ub i L (cB (opA 11) (F.blocks.take a) + (x.code.take (m + 1)).countP (opA 11)) (cB (opA 12) (F.blocks.take a) + (x.code.take (m + 1)).countP (opA 12)) (fun s => cB (opS 11 s) (F.blocks.take a) + (x.code.take (m + 1)).countP (opS 11 s)) (fun s => cB (opS 12 s) (F.blocks.take a) + (x.code.take (m + 1)).countP (opS 12 s)) w6) := by
                  show LkSt _ _ _ _ _ _ _ _ _ _ _
                  rw [HN11.out, HN12.out]
                  simp only [HS11.out, HS12.out]
                  simp only [opA, opS, k12, decide_true, Bool.true_and, if_true, show decide ((12 : Int) = 11) = false from rfl, Bool.false_and, Bool.false_eq_true, if_false, Nat.add_zero, decide_eq_true_eq]
                  simpa only [Nat.add_assoc] using hst6
                clear hst6 hk0 k11 k12
                go_wp2_with fail
                clear c0 c1 c2 c3 c4 c5 b0 b5 hE hlk hup
                go_roundw
                case rel => exact ⟨m + 1, by have := HMT.out; omega, by go_num, HSX.out⟩
                case measure => have := HMT.out; simp [intOf]; omega
              have k12d : (c.op == 12) = false := by simpa using k12
              have HSX : Hid (LkSt V V.heap.size lb ub i L (cB (opA 11) (F.blocks.take a) + (x.code.take (m + 1)).countP (opA 11)) (cB (opA 12) (F.blocks.take a) + (x.code.take (m + 1)).countP (opA 12)) (fun s => cB (opS 11 s) (F.blocks.take a) + (x.code.take (m + 1)).countP (opS 11 s)) (fun s => cB (opS 12 s) (F.blocks.take a) + (x.code.take (m + 1)).countP (opS 12 s)) E) := by
                show LkSt _ _ _ _ _ _ _ _ _ _ _
                rw [HN11.out, HN12.out]
                simp only [HS11.out, HS12.out]
                simp only [opA, opS, decide_eq_false k11, decide_eq_false k12, Bool.false_and, Bool.false_eq_true, if_false, Nat.add_zero]
                exact HSE.out
              clear k11 k12
              go_wp2_with fail
              clear c0 c1 c2 c3 c4 c5 b0 b5 hE
              go_roundw
              case rel => exact ⟨m + 1, by have := HMT.out; omega, by go_num, HSX.out⟩
              case measure => have := HMT.out; simp [intOf]; omega
            · obtain rfl : m = nc := by omega
              have HSX : Hid (LkSt V V.heap.size lb ub i L (cB (opA 11) (F.blocks.take (a + 1))) (cB (opA 12) (F.blocks.take (a + 1))) (fun s => cB (opS 11 s) (F.blocks.take (a + 1))) (fun s => cB (opS 12 s) (F.blocks.take (a + 1))) wr) := by
                have h9 := HST.out
                rw [show x.code.take m = x.code from by rw [← HNC.out, List.take_length]] at h9
                show LkSt _ _ _ _ _ _ _ _ _ _ _
                simp only [cB_next HX.out]
                exact h9
              clear hmt
              go_wp2_with fail
              go_roundw
              case rel => exact ⟨a + 1, by have := HAT.out; omega, by go_num, HSX.out⟩
              case measure => have := HAT.out; simp [intOf]; omega
        · obtain rfl : a = bn := by omega
          have HEND : Hid (LkSt V V.heap.size lb ub i L (cB (opA 11) F.blocks) (cB (opA 12) F.blocks) (cntN L) (cntN L) wr) := by
            have h9 := HST.out
            rw [show F.blocks.take a = F.blocks from by rw [← HNN.out.2, List.take_length]] at h9
            have e1 : ∀ s, cB (opS 11 s) F.blocks = cntN L s := fun s => by
              have h1 := lowFn_cnt (cnt_lock s) p.shared t (tskOk_body HTV.out)
              rw [HLE.out] at h1
              rw [HF.out, Int.toNat_natCast, HT.out]
              exact h1
            have e2 : ∀ s, cB (opS 12 s) F.blocks = cntN L s := fun s => by
              have h1 := lowFn_cnt (cnt_unlock s) p.shared t (tskOk_body HTV.out)
              rw [HLE.out] at h1
              rw [HF.out, Int.toNat_natCast, HT.out]
              exact h1
            simp only [e1, e2] at h9
            exact h9
          have HBV := Lib.hid (mem_then HV.out HEND.out.2.2.2)
          have y0 : wr.cell? ⟨w.heap.size, 0, none⟩ = some (.slice sa p.shared.length sc) := mem_cell (HK.out wr HBV.out).1 0
          have hsl : p.shared.length ≤ 9223372036854775807 := (HK.out wr HBV.out).2.1.1.1
          clear hat HST
          go_wp2_with fail
          clear y0
          go_loopw [83] (fun iv wx => ∃ d : Nat, d ≤ p.shared.length ∧ iv = .int .i64 (d : Int) ∧ LkSt V V.heap.size lb ub i L (cB (opA 11) F.blocks) (cB (opA 12) F.blocks) (cntN L) (cntN L) wx) (fun iv _ => p.shared.length - (intOf iv).toNat)
          case atStart => exact ⟨0, Nat.zero_le _, rfl, HEND.out⟩
          case round =>
            clear HEND HBV
            obtain ⟨d, hd, rfl, hst⟩ := hrel
            have HST := Lib.hid hst
            have HBV := Lib.hid (mem_then HV.out hst.2.2.2)
            have hd0 : (0 : Int) ≤ (d : Int) := by omega
            clear hst
            by_cases hdt : d < p.shared.length
            · have HDT : Hid (d < p.shared.length) := hdt
              have hdt2 : (d : Int) < (p.shared.length : Int) := by omega
              obtain ⟨xb, xo, rfl, c0, c1, hsz, hlen⟩ := (HK.out wr HBV.out).2.1.1.2 d hdt
              obtain ⟨y, hy⟩ : ∃ y, p.shared.getD d Arr.none = y := ⟨_, rfl⟩
              rw [hy] at c0 c1 hsz hlen
              obtain ⟨E, hE⟩ : ∃ E : World, wr.alloc (.cells #[.string y.name, .int .i64 y.len] 40) = E := ⟨_, rfl⟩
              have hBE : Below wr.heap.size wr E := by rw [← hE]; exact mem_alloc _ _
              have hXE : E.heap[wr.heap.size]? = some (.cells #[.string y.name, .int .i64 y.len] 40) := by rw [← hE]; exact mem_new _ _
              have b0 : E.cell? ⟨wr.heap.size, 0, none⟩ = some (.string y.name) := mem_cell hXE 0
              have HSE := Lib.hid (HST.out.keep hBE)
              have l1 := HSE.out.1.look hsz
              have l2 := HSE.out.2.1.look hsz
              have l3 := HSE.out.2.2.1.look hsz
              obtain ⟨k0, hk0⟩ : ∃ k, cntN L y.name = k := ⟨_, rfl⟩
              rw [hk0] at l1 l2 l3
              clear hy hBE hXE hsz hlen hk0 hdt HST
              go_wp2_with fail
              clear c0 c1 b0 hE l1 l2 l3
              go_roundw
              case rel => exact ⟨d + 1, by have := HDT.out; omega, by go_num, HSE.out⟩
              case measure => have := HDT.out; simp [intOf]; omega
            · obtain rfl : d = p.shared.length := by omega
              clear hdt
              go_wp2_with fail
              go_ret
              exact ⟨rfl, (HK.out wr HBV.out).2.2.1⟩
end Go.Proofs.YtkpdngfkdmllkaaDoor

/-
  A node that reads as data lies in memory as a tree.
-/
namespace Go.Proofs.YtkpdngfkdmllkaaDoor
set_option linter.unusedVariables false
set_option linter.unusedSimpArgs false
open Go.ChangeShapes Go.WideShapes Go.ChangeAt Go.RowKit

theorem cellsNode : Tryd.prog.cellsOf 35 = 4 := by kernel_rfl
theorem cellsNode0 : Tryd.prog.cellsOf 5 = 1 := by kernel_rfl
theorem cellsNode1 : Tryd.prog.cellsOf 3 = 1 := by kernel_rfl
theorem cellsNode2 : Tryd.prog.cellsOf 9 = 1 := by kernel_rfl
theorem cellsNode3 : Tryd.prog.cellsOf 33 = 1 := by kernel_rfl

theorem list4 {l : List Value} (h : l.length = 4) : ∃ a b c d, l = [a, b, c, d] := by
  match l, h with
  | [a, b, c, d], _ => exact ⟨a, b, c, d, rfl⟩

theorem le_max {n : Nat} (h : n ≤ maxLen) : n ≤ 9223372036854775807 := by unfold maxLen at h; omega

section
variable {H : Type} {enc : TypeId × Value → H} {w : World} {base : Nat} {sp : Nat → Bool} {held : Bool}
theorem tree_open (fuel : Nat) : ∀ (cs : List Value) (x : DataW H × List MemPlace), DataW.trod enc Tryd.prog w base sp held fuel 35 cs = some x →
    ∃ (t : Tree) (a : Option Addr) (c : Nat), cs = [.int .u8 t.kind, .int .i64 t.num, .string t.name, .slice a t.len c] ∧ Rep w t a := by
  induction fuel with
  | zero => intro cs x h; simp [DataW.trod] at h
  | succ fuel ih =>
    intro cs x h
    obtain ⟨xs, n, hn, rfl, hl, hxl, hf⟩ := DataW.trod_struct Tryd.underlying35 h
    obtain rfl : fuel = n := by omega
    rw [cellsNode] at hl
    obtain ⟨c0, c1, c2, c3, rfl⟩ := list4 hl
    match xs, hxl with
    | [y0, y1, y2, y3], _ =>
      have h0 : DataW.trod enc Tryd.prog w base sp held fuel 5 (([c0, c1, c2, c3].drop 0).take (Tryd.prog.cellsOf 5)) = [y0, y1, y2, y3][0]? := hf 0 _ rfl
      have h1 : DataW.trod enc Tryd.prog w base sp held fuel 3 (([c0, c1, c2, c3].drop 1).take (Tryd.prog.cellsOf 3)) = [y0, y1, y2, y3][1]? := hf 1 _ rfl
      have h2 : DataW.trod enc Tryd.prog w base sp held fuel 9 (([c0, c1, c2, c3].drop 2).take (Tryd.prog.cellsOf 9)) = [y0, y1, y2, y3][2]? := hf 2 _ rfl
      have h3 : DataW.trod enc Tryd.prog w base sp held fuel 33 (([c0, c1, c2, c3].drop 3).take (Tryd.prog.cellsOf 33)) = [y0, y1, y2, y3][3]? := hf 3 _ rfl
      rw [cellsNode0] at h0
      rw [cellsNode1] at h1
      rw [cellsNode2] at h2
      rw [cellsNode3] at h3
      simp only [List.drop_zero, List.drop_succ_cons, List.take_succ_cons, List.take_zero, List.getElem?_cons_zero, List.getElem?_cons_succ] at h0 h1 h2 h3
      obtain ⟨k, hk, _, wk⟩ := DataW.trod_int Tryd.underlying5 h0
      obtain ⟨m, hm, _, wm⟩ := DataW.trod_int Tryd.underlying3 h1
      obtain ⟨s, hs, _, ws⟩ := DataW.trod_string Tryd.underlying9 h2
      cases hk; cases hm; cases hs
      have bk : 0 ≤ k ∧ k ≤ 255 := by simpa [Lit.wf, IntKind.min, IntKind.max, IntKind.signed, IntKind.bits] using wk
      have bm : -9223372036854775808 ≤ m ∧ m ≤ 9223372036854775807 := by simpa [Lit.wf, IntKind.min, IntKind.max, IntKind.signed, IntKind.bits] using wm
      have ws' : s.size ≤ 9223372036854775807 := le_max ws
      clear ws
      rcases DataW.trod_slice Tryd.underlying33 h3 with ⟨h4, _⟩ | ⟨a, len, cap, elems, rest, n', hn', h4, _, hb, hlc, hcm, hel, hel2, _, _⟩
      · cases h4
        exact ⟨Tree.leaf k m s, none, 0, rfl, Rep.mk ⟨bk, bm, ws', Nat.zero_le _⟩ (.inl rfl)⟩
      · cases h4
        have hcm' : cap ≤ 9223372036854775807 := le_max hcm
        clear hcm
        obtain rfl : fuel = n' + 1 := hn'
        have hspot : 0 < len → a.spot = none := by
          intro h0
          have hi2 := hel2 0 h0
          rw [Nat.zero_mul, cellsNode] at hi2
          obtain ⟨y, hy⟩ : ∃ y, elems[0]? = some y := ⟨_, List.getElem?_eq_getElem (by omega)⟩
          rw [hy] at hi2
          obtain ⟨cs', hc1, hc2⟩ := Option.bind_eq_some_iff.1 hi2
          obtain ⟨t, ai, ci, rfl, hr⟩ := ih _ _ (DataW.trod_succ _ _ _ _ hc2)
          obtain ⟨_, _, hcs⟩ := World.cells?_some hc1
          have e0 := hcs 0 (by omega)
          have h9 : (a.add 0).add 0 = a := by simp [Addr.add]
          rw [h9] at e0
          cases hq : a.spot with
          | none => rfl
          | some q =>
            unfold World.cell? at e0
            rw [hq] at e0
            split at e0 <;> simp at e0
        have each : ∀ i, ∃ (t : Tree), i < len → ∃ (ai : Option Addr) (ci : Nat), NodeAt w a.block (a.off + i * 4) t ai ci ∧ Rep w t ai := by
          intro i
          by_cases hi : i < len
          · have hi2 := hel2 i hi
            rw [cellsNode] at hi2
            obtain ⟨y, hy⟩ : ∃ y, elems[i]? = some y := ⟨_, List.getElem?_eq_getElem (by omega)⟩
            rw [hy] at hi2
            obtain ⟨cs', hc1, hc2⟩ := Option.bind_eq_some_iff.1 hi2
            obtain ⟨t, ai, ci, rfl, hr⟩ := ih _ _ (DataW.trod_succ _ _ _ _ hc2)
            obtain ⟨_, _, hcs⟩ := World.cells?_some hc1
            obtain ⟨ab, ao, asp⟩ := a
            obtain rfl : asp = none := hspot (by omega)
            have hadd : ∀ d, ((⟨ab, ao, none⟩ : Addr).add (i * 4)).add d = ⟨ab, ao + i * 4 + d, none⟩ := by
              intro d
              unfold Addr.add
              by_cases h1 : i * 4 = 0 <;> by_cases h2 : d = 0 <;> simp [h1, h2]
              all_goals omega
            have e0 := hcs 0 (by omega)
            have e1 := hcs 1 (by omega)
            have e2 := hcs 2 (by omega)
            have e3 := hcs 3 (by omega)
            rw [hadd] at e0 e1 e2 e3
            exact ⟨t, fun _ => ⟨ai, ci, ⟨e0, e1, e2, e3⟩, hr⟩⟩
          · exact ⟨Tree.leaf 0 0 s, fun h => absurd h hi⟩
        obtain ⟨f, hf⟩ := Classical.axiomOfChoice each
        refine ⟨Tree.make k m s len f, some a, cap, rfl, Rep.mk ⟨bk, bm, ws', by show len ≤ _; omega⟩ ?_⟩
        by_cases h0 : 0 < len
        · obtain ⟨ab, ao, asp⟩ := a
          obtain rfl : asp = none := hspot h0
          refine .inr ⟨ab, ao, rfl, fun i hi => ?_⟩
          obtain ⟨ai, ci, h1, h2⟩ := hf i hi
          exact ⟨ai, ci, by rw [Tree.make_kid (show i < len from hi)]; exact h1, by rw [Tree.make_kid (show i < len from hi)]; exact h2⟩
        · exact .inl (show len = 0 by omega)
end
end Go.Proofs.YtkpdngfkdmllkaaDoor
