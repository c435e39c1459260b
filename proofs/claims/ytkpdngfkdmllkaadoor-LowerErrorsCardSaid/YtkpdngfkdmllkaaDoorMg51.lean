/-
  Mg51: several texts in one (LowTrans, LowAlone, LowProg, LowErrors, TreeOpen).
-/
import Derived.Test.YtkpdngfkdmllkaaDoorMg50
import Derived.Test.YtkpdngfkdmllkaaDoorMg22
import Derived.Test.YtkpdngfkdmllkaaDoorIrEqual
import Derived.Test.YtkpdngfkdmllkaaDoorMg49
import Derived.Test.YtkpdngfkdmllkaaDoorRows
import Derived.Test.YtkpdngfkdmllkaaDoorMg5
import Derived.Test.YtkpdngfkdmllkaaDoorMg0
import Derived.ProofKit
import Derived.OpenShut
import Derived.Lib.SmallJoins
import Derived.WideKeyArgs
/-
  Contract: translated (package ontimelaw18).
-/
namespace Go.Proofs.YtkpdngfkdmllkaaDoor
set_option linter.unusedVariables false
set_option linter.unusedSimpArgs false
open Go.RowKit Go.Maps
set_option maxRecDepth 100000
set_option maxHeartbeats 8000000

/-- what translated answers -/
def TransRet (p : Prg) (k : Int) (w : World) (e : Ending) (w' : World) : Prop := ∃ F b aa ac ba bc, e = .returned (.tuple #[fnVal F.name F.regs aa F.arrays.length ac ba F.blocks.length bc, .bool b]) ∧ FnNew w.heap.size w' F aa ba ∧ Below w.heap.size w w' ∧
  (b = true → okP p = true ∧ (0 ≤ k ∧ k < p.tasks.length) ∧ F = lowFn p.shared (p.tasks.getD k.toNat Tsk.none))
theorem TransRet.no {p : Prg} {k : Int} {w w' : World} (h : Below w.heap.size w w') : TransRet p k w (.returned (.tuple #[fnVal ⟨#[]⟩ 0 none 0 0 none 0 0, .bool false])) w' :=
  ⟨Fn.zero, false, none, 0, none, 0, rfl, Fn.zero_at _ _, h, fun h => nomatch h⟩
theorem translated_fn (p : Prg) (k : Int) (w : World) (sa ta : Option Addr) (sc tc : Nat) (hp : PrgAt w p sa ta) (hg : SignsIn w) (hk : isI64 k) :
    Calls Tryd.prog 9 #[p.val sa sc ta tc, .int .i64 k] w (TransRet p k w) := by
  have htl := hp.2.1
  have HKK := Lib.hid hk
  have hk1 := hk.1
  have hk2 := hk.2
  obtain ⟨A0, h0⟩ : ∃ A0 : World, w.alloc (prgObj p sa sc ta tc) = A0 := ⟨_, rfl⟩
  obtain ⟨A1, h1⟩ : ∃ A1 : World, A0.alloc (fnObj ⟨#[]⟩ 0 (.slice none 0 0) (.slice none 0 0)) = A1 := ⟨_, rfl⟩
  have HB0 : Hid (Below w.heap.size w A0) := by show Below _ _ _; rw [← h0]; exact mem_alloc _ _
  have HB1 : Hid (Below A0.heap.size A0 A1) := by show Below _ _ _; rw [← h1]; exact mem_alloc _ _
  have HX0 : Hid (A0.heap[w.heap.size]? = some (prgObj p sa sc ta tc)) := by show _ = _; rw [← h0]; exact mem_new _ _
  have HX1 : Hid (A1.heap[A0.heap.size]? = some (fnObj ⟨#[]⟩ 0 (.slice none 0 0) (.slice none 0 0))) := by show _ = _; rw [← h1]; exact mem_new _ _
  have HBW := Lib.hid (mem_then HB0.out HB1.out)
  have HZ : Hid (A0.heap.size = w.heap.size + 1) := by show _ = _; rw [← h0]; simp
  have HK : Hid (∀ w', Below A1.heap.size A1 w' → w'.heap[w.heap.size]? = some (prgObj p sa sc ta tc) ∧ w'.heap[A0.heap.size]? = some (fnObj ⟨#[]⟩ 0 (.slice none 0 0) (.slice none 0 0)) ∧ PrgAt w' p sa ta ∧ Below w.heap.size w w' ∧ SignsIn w') := fun w' h =>
    ⟨mem_keep (mem_keep HX0.out HB1.out) h, mem_keep HX1.out h, hp.below (mem_then HBW.out h), mem_then HBW.out h, hg.below (mem_then HBW.out h)⟩
  -- a way out with the zero function
  have HZF : Hid (∀ w', Below A1.heap.size A1 w' → Below w.heap.size w (put4 w' A0.heap.size (.string ⟨#[]⟩) (.int .i64 0) (.slice none 0 0) (.slice none 0 0)) ∧ (put4 w' A0.heap.size (.string ⟨#[]⟩) (.int .i64 0) (.slice none 0 0) (.slice none 0 0)).heap[A0.heap.size]? = some (fnObj ⟨#[]⟩ 0 (.slice none 0 0) (.slice none 0 0))) := fun w' h =>
    ⟨put4_below (HK.out w' h).2.2.2.1 (by have := HZ.out; omega), put4_at (HK.out w' h).2.1⟩
  have y0 : A1.cell? ⟨w.heap.size, 0, none⟩ = some (.slice sa p.shared.length sc) := mem_cell (HK.out A1 (Below.refl _ _)).1 0
  have y1 : A1.cell? ⟨w.heap.size, 1, none⟩ = some (.slice ta p.tasks.length tc) := mem_cell (HK.out A1 (Below.refl _ _)).1 1
  clear hp hg hk
  go_enter Tryd.func9, Tryd.ntmps9
  go_wp2_with fail
  clear y0 y1 h0 h1
  refine (smallProg_any p A1 sa ta sc tc (HK.out A1 (Below.refl _ _)).2.2.1).mono ?_
  rintro e w1 ⟨⟨b1, rfl⟩, hB1⟩
  have HB1' := Lib.hid hB1
  have y0 : w1.cell? ⟨w.heap.size, 0, none⟩ = some (.slice sa p.shared.length sc) := mem_cell (HK.out w1 hB1).1 0
  have y1 : w1.cell? ⟨w.heap.size, 1, none⟩ = some (.slice ta p.tasks.length tc) := mem_cell (HK.out w1 hB1).1 1
  clear hB1
  have HOUT : Hid (∀ w', Below A1.heap.size A1 w' → ∃ X : World, put4 w' A0.heap.size (.string ⟨#[]⟩) (.int .i64 0) (.slice none 0 0) (.slice none 0 0) = X ∧ (Below w.heap.size w X ∧ X.heap[A0.heap.size]? = some (fnObj ⟨#[]⟩ 0 (.slice none 0 0) (.slice none 0 0)))) := fun w' h => ⟨_, rfl, HZF.out w' h⟩
  cases b1 with
  | false =>
    obtain ⟨c0, c1, c2, c3, cf⟩ := fn_four (HK.out w1 HB1'.out).2.1
    obtain ⟨WE, hWE, hz⟩ := HOUT.out w1 HB1'.out
    have HZ1 := Lib.hid hz
    unfold put4 at hWE
    clear hz
    go_wp2_with fail
    clear c0 c1 c2 c3 cf hWE
    obtain ⟨r0, r1, r2, r3, _⟩ := fn_four HZ1.out.2
    exact bodyPost_ret (v := .tuple #[fnVal ⟨#[]⟩ 0 none 0 0 none 0 0, .bool false]) (by simp [results, Tryd.results9, go_sem, r0, r1, r2, r3]) rfl (TransRet.no HZ1.out.1)
  | true =>
  go_wp2_with fail
  clear y0 y1
  refine (ok15_any p w1 sa ta sc tc (HK.out w1 HB1'.out).2.2.1 (HK.out w1 HB1'.out).2.2.2.2).mono ?_
  rintro e w2 ⟨rfl, hB2⟩
  have HB2 := Lib.hid (mem_then HB1'.out hB2)
  have y0 : w2.cell? ⟨w.heap.size, 0, none⟩ = some (.slice sa p.shared.length sc) := mem_cell (HK.out w2 HB2.out).1 0
  have y1 : w2.cell? ⟨w.heap.size, 1, none⟩ = some (.slice ta p.tasks.length tc) := mem_cell (HK.out w2 HB2.out).1 1
  obtain ⟨ok, hok⟩ : ∃ b, okP p = b := ⟨_, rfl⟩
  have HOK := Lib.hid hok
  rw [hok]
  clear hB2 hok
  cases ok with
  | false =>
    obtain ⟨c0, c1, c2, c3, cf⟩ := fn_four (HK.out w2 HB2.out).2.1
    obtain ⟨WE, hWE, hz⟩ := HOUT.out w2 HB2.out
    have HZ1 := Lib.hid hz
    unfold put4 at hWE
    clear hz
    go_wp2_with fail
    clear c0 c1 c2 c3 cf hWE
    obtain ⟨r0, r1, r2, r3, _⟩ := fn_four HZ1.out.2
    exact bodyPost_ret (v := .tuple #[fnVal ⟨#[]⟩ 0 none 0 0 none 0 0, .bool false]) (by simp [results, Tryd.results9, go_sem, r0, r1, r2, r3]) rfl (TransRet.no HZ1.out.1)
  | true =>
  by_cases h0 : k < 0
  · have h0d : decide (k < 0) = true := by simpa using h0
    obtain ⟨c0, c1, c2, c3, cf⟩ := fn_four (HK.out w2 HB2.out).2.1
    obtain ⟨WE, hWE, hz⟩ := HOUT.out w2 HB2.out
    have HZ1 := Lib.hid hz
    unfold put4 at hWE
    clear hz
    go_wp2_with fail
    clear c0 c1 c2 c3 cf hWE
    obtain ⟨r0, r1, r2, r3, _⟩ := fn_four HZ1.out.2
    exact bodyPost_ret (v := .tuple #[fnVal ⟨#[]⟩ 0 none 0 0 none 0 0, .bool false]) (by simp [results, Tryd.results9, go_sem, r0, r1, r2, r3]) rfl (TransRet.no HZ1.out.1)
  have h0d : decide (k < 0) = false := by simpa using h0
  by_cases h1 : (p.tasks.length : Int) ≤ k
  · have h1d : decide ((p.tasks.length : Int) ≤ k) = true := by simpa using h1
    obtain ⟨c0, c1, c2, c3, cf⟩ := fn_four (HK.out w2 HB2.out).2.1
    obtain ⟨WE, hWE, hz⟩ := HOUT.out w2 HB2.out
    have HZ1 := Lib.hid hz
    unfold put4 at hWE
    clear hz
    go_wp2_with fail
    clear c0 c1 c2 c3 cf hWE
    obtain ⟨r0, r1, r2, r3, _⟩ := fn_four HZ1.out.2
    exact bodyPost_ret (v := .tuple #[fnVal ⟨#[]⟩ 0 none 0 0 none 0 0, .bool false]) (by simp [results, Tryd.results9, go_sem, r0, r1, r2, r3]) rfl (TransRet.no HZ1.out.1)
  have h1d : decide ((p.tasks.length : Int) ≤ k) = false := by simpa using h1
  have HKB : Hid (0 ≤ k ∧ k < p.tasks.length) := ⟨by omega, by omega⟩
  have HR : Hid (taskR p k = (lowFn p.shared (p.tasks.getD k.toNat Tsk.none), 0)) := by
    show _ = _; unfold taskR; rw [if_neg (by rw [HOK.out]; simp), if_neg (by omega)]
  clear h0 h1
  have hT := task_any p k w2 sa ta sc tc (HK.out w2 HB2.out).2.2.1 (HK.out w2 HB2.out).2.2.2.2 HKK.out
  rw [HR.out] at hT
  obtain ⟨F, hF⟩ : ∃ F, lowFn p.shared (p.tasks.getD k.toNat Tsk.none) = F := ⟨_, rfl⟩
  have HF := Lib.hid hF
  rw [hF] at hT
  have HT := Lib.hid hT
  clear hT hF
  go_wp2_with fail
  clear y0 y1
  refine HT.out.mono ?_
  rintro e w3 ⟨aa, ac, ba, bc, rfl, hfn, hB3⟩
  have HFN := Lib.hid hfn
  have HB3 := Lib.hid (mem_then HB2.out hB3)
  clear hfn hB3 HT
  obtain ⟨an, hn1⟩ : ∃ n, F.arrays.length = n := ⟨_, rfl⟩
  obtain ⟨bn, hn2⟩ : ∃ n, F.blocks.length = n := ⟨_, rfl⟩
  have HNN : Hid (F.arrays.length = an ∧ F.blocks.length = bn) := ⟨hn1, hn2⟩
  simp only [hn1, hn2]
  obtain ⟨V, hV⟩ : ∃ X : World, w3.alloc (fnObj F.name F.regs (.slice aa an ac) (.slice ba bn bc)) = X := ⟨_, rfl⟩
  have HV0 : Hid (Below w3.heap.size w3 V) := by show Below _ _ _; rw [← hV]; exact mem_alloc _ _
  have HVX : Hid (V.heap[w3.heap.size]? = some (fnObj F.name F.regs (.slice aa an ac) (.slice ba bn bc))) := by show _ = _; rw [← hV]; exact mem_new _ _
  have HV := Lib.hid (mem_then HB3.out HV0.out)
  obtain ⟨v0, v1, v2, v3, _⟩ := fn_four HVX.out
  obtain ⟨c0, c1, c2, c3, cf⟩ := fn_four (HK.out V HV.out).2.1
  obtain ⟨WE, hWE⟩ : ∃ X : World, put4 V A0.heap.size (.string F.name) (.int .i64 F.regs) (.slice aa an ac) (.slice ba bn bc) = X := ⟨_, rfl⟩
  have HEX : Hid (WE.heap[A0.heap.size]? = some (fnObj F.name F.regs (.slice aa an ac) (.slice ba bn bc))) := by show _ = _; rw [← hWE]; exact put4_at (HK.out V HV.out).2.1
  have HAE : Hid (FnNew w.heap.size WE F aa ba) := by
    refine (FnNew.move HFN.out (by rw [← hWE]; unfold put4; simp; exact HV0.out.size) (fun k h1 h2 => ?_)).mono (by have := HB2.out.size; have := HBW.out.size; omega)
    rw [← hWE]
    exact (put4_far (by have h3 := mem_lt (HK.out w2 HB2.out).2.1; omega)).trans (HV0.out.block k h2)
  have HBE : Hid (Below w.heap.size w WE) := by show Below _ _ _; rw [← hWE]; exact put4_below (HK.out V HV.out).2.2.2.1 (by have := HZ.out; omega)
  unfold put4 at hWE
  clear hn1 hn2
  go_wp2_with fail
  clear c0 c1 c2 c3 cf hWE hV v0 v1 v2 v3
  obtain ⟨r0, r1, r2, r3, _⟩ := fn_four HEX.out
  exact bodyPost_ret (v := .tuple #[fnVal F.name F.regs aa an ac ba bn bc, .bool true]) (by simp [results, Tryd.results9, go_sem, r0, r1, r2, r3]) rfl ⟨F, true, aa, ac, ba, bc, by rw [HNN.out.1, HNN.out.2], HAE.out, HBE.out, fun _ => ⟨HOK.out, HKB.out, HF.out.symm⟩⟩
end Go.Proofs.YtkpdngfkdmllkaaDoor

/-
  LowerAlone (package ontimelaw18): the function depends on its own task and the shared objects only.
-/
namespace Go.Proofs.YtkpdngfkdmllkaaDoor
set_option linter.unusedVariables false
set_option linter.unusedSimpArgs false
open Go.RowKit Go.Maps
set_option maxRecDepth 100000
set_option maxHeartbeats 8000000

theorem one_end {V X : World} {b nb : Nat} {p : Prg} {t : Tsk} {q : TskPlace} {sa : Option Addr} {sc : Nat} (hB : Below V.heap.size V X) (hb : X.heap[b]? = some (.cells #[.slice none 0 0, .slice none 0 0] 25)) (hn : X.heap[nb]? = some (tskObj t q)) (hV : V.heap.size ≤ b) (hin : TskIn V t q) :
    ((X.setCell ⟨b, 0, none⟩ (.slice sa p.shared.length sc)).setCell ⟨b, 1, none⟩ (.slice (some ⟨nb, 0, none⟩) 1 1)).drew.heap[b]? = some (prgObj (oneP p t) sa sc (some ⟨nb, 0, none⟩) 1) ∧
    TsksAt ((X.setCell ⟨b, 0, none⟩ (.slice sa p.shared.length sc)).setCell ⟨b, 1, none⟩ (.slice (some ⟨nb, 0, none⟩) 1 1)).drew (some ⟨nb, 0, none⟩) [t] ∧
    Below V.heap.size V ((X.setCell ⟨b, 0, none⟩ (.slice sa p.shared.length sc)).setCell ⟨b, 1, none⟩ (.slice (some ⟨nb, 0, none⟩) 1 1)).drew := by
  have hne : nb ≠ b := by
    rintro rfl
    rw [hn] at hb
    injection hb with hb
    injection hb with h1 h2
    exact absurd h2 (by decide)
  have h1 := mem_set (i := 1) (v := .slice (some ⟨nb, 0, none⟩) 1 1) (mem_set (i := 0) (v := .slice sa p.shared.length sc) hb)
  have h2 : Below V.heap.size V ((X.setCell ⟨b, 0, none⟩ (.slice sa p.shared.length sc)).setCell ⟨b, 1, none⟩ (.slice (some ⟨nb, 0, none⟩) 1 1)) := (hB.setCell (p := ⟨b, 0, none⟩) hV _).setCell (p := ⟨b, 1, none⟩) hV _
  have h3 : ((X.setCell ⟨b, 0, none⟩ (.slice sa p.shared.length sc)).setCell ⟨b, 1, none⟩ (.slice (some ⟨nb, 0, none⟩) 1 1)).heap[nb]? = some (tskObj t q) := by
    rw [Below.heap_setCell _ _ _ _ hne, Below.heap_setCell _ _ _ _ hne]; exact hn
  generalize ((X.setCell ⟨b, 0, none⟩ (.slice sa p.shared.length sc)).setCell ⟨b, 1, none⟩ (.slice (some ⟨nb, 0, none⟩) 1 1)) = Y at h1 h2 h3
  refine ⟨h1, ⟨by show 1 ≤ _; omega, fun i hi => ?_⟩, h2.drew⟩
  obtain rfl : i = 0 := by have hi : i < 1 := hi; omega
  refine ⟨nb, 0, q, rfl, fun o ho => ?_, hin.below h2.drew⟩
  rw [show 0 + 0 * 8 + o = o by omega]
  exact mem_cell (w := Y) h3 o
theorem lowerAlone_any (p : Prg) (k : Int) (w : World) (sa ta : Option Addr) (sc tc : Nat) (hp : PrgAt w p sa ta) (hg : SignsIn w) (hk : isI64 k) :
    Calls Tryd.prog 6 #[p.val sa sc ta tc, .int .i64 k] w fun e w' => e = .returned (.bool true) ∧ Below w.heap.size w w' := by
  have htl := hp.2.1
  have HKK := Lib.hid hk
  have hk1 := hk.1
  have hk2 := hk.2
  obtain ⟨A0, h0⟩ : ∃ A0 : World, w.alloc (prgObj p sa sc ta tc) = A0 := ⟨_, rfl⟩
  have HB0 : Hid (Below w.heap.size w A0) := by show Below _ _ _; rw [← h0]; exact mem_alloc _ _
  have HX0 : Hid (A0.heap[w.heap.size]? = some (prgObj p sa sc ta tc)) := by show _ = _; rw [← h0]; exact mem_new _ _
  have HK : Hid (∀ w', Below A0.heap.size A0 w' → w'.heap[w.heap.size]? = some (prgObj p sa sc ta tc) ∧ PrgAt w' p sa ta ∧ Below w.heap.size w w' ∧ SignsIn w') := fun w' h =>
    ⟨mem_keep HX0.out h, hp.below (mem_then HB0.out h), mem_then HB0.out h, hg.below (mem_then HB0.out h)⟩
  clear hp hg hk
  go_enter Tryd.func6, Tryd.ntmps6
  go_wp2_with fail
  clear h0
  refine (lawake_any A0 (HK.out A0 (Below.refl _ _)).2.2.2).mono ?_
  rintro e w1 ⟨rfl, hB1⟩
  have HB1 := Lib.hid hB1
  have y0 : w1.cell? ⟨w.heap.size, 0, none⟩ = some (.slice sa p.shared.length sc) := mem_cell (HK.out w1 hB1).1 0
  have y1 : w1.cell? ⟨w.heap.size, 1, none⟩ = some (.slice ta p.tasks.length tc) := mem_cell (HK.out w1 hB1).1 1
  clear hB1
  go_wp2_with fail
  clear y0 y1
  refine (translated_fn p k w1 sa ta sc tc (HK.out w1 HB1.out).2.1 (HK.out w1 HB1.out).2.2.2 HKK.out).mono ?_
  rintro e w2 ⟨F, b, aa, ac, ba, bc, rfl, hfn, hB2, hyes⟩
  have HB2 := Lib.hid (mem_then HB1.out hB2)
  obtain ⟨an, hn1⟩ : ∃ n, F.arrays.length = n := ⟨_, rfl⟩
  obtain ⟨bn, hn2⟩ : ∃ n, F.blocks.length = n := ⟨_, rfl⟩
  have HNN : Hid (F.arrays.length = an ∧ F.blocks.length = bn) := ⟨hn1, hn2⟩
  simp only [hn1, hn2]
  obtain ⟨V, hV⟩ : ∃ X : World, w2.alloc (fnObj F.name F.regs (.slice aa an ac) (.slice ba bn bc)) = X := ⟨_, rfl⟩
  have HV0 : Hid (Below w2.heap.size w2 V) := by show Below _ _ _; rw [← hV]; exact mem_alloc _ _
  have HVX : Hid (V.heap[w2.heap.size]? = some (fnObj F.name F.regs (.slice aa an ac) (.slice ba bn bc))) := by show _ = _; rw [← hV]; exact mem_new _ _
  have HFN := Lib.hid (hfn.at_.below HV0.out)
  have HV := Lib.hid (mem_then HB2.out HV0.out)
  clear hfn hB2 hn1 hn2
  cases b with
  | false =>
    clear hyes
    go_wp2_with fail
    go_ret
    exact ⟨rfl, (HK.out V HV.out).2.2.1⟩
  | true =>
  obtain ⟨hok, ⟨hk0, hkl⟩, hF⟩ := hyes rfl
  have HOK := Lib.hid hok
  have HF := Lib.hid hF
  obtain ⟨j, rfl⟩ : ∃ j : Nat, k = (j : Int) := ⟨k.toNat, by omega⟩
  have hj : j < p.tasks.length := by omega
  have HJ := Lib.hid hj
  obtain ⟨tb, to', q, rfl, htc, htin⟩ := (HK.out V HV.out).2.1.2.2 j hj
  obtain ⟨t, ht⟩ : ∃ t, p.tasks.getD j Tsk.none = t := ⟨_, rfl⟩
  have HT := Lib.hid ht
  rw [ht] at htc htin
  have HTI := Lib.hid htin
  obtain ⟨⟨g0, g1, g2, g3, g4, g5, g6, g7⟩, _⟩ := tsk_cells (Below.refl V.heap.size V) htc
  have y0 : V.cell? ⟨w.heap.size, 0, none⟩ = some (.slice sa p.shared.length sc) := mem_cell (HK.out V HV.out).1 0
  have y1 : V.cell? ⟨w.heap.size, 1, none⟩ = some (.slice (some ⟨tb, to', none⟩) p.tasks.length tc) := mem_cell (HK.out V HV.out).1 1
  obtain ⟨v0, v1, v2, v3, _⟩ := fn_four HVX.out
  clear hyes hok hF htc htin ht
  go_wp2_with fail
  go_cut [7] from 20 to 28 (fun u w' => ∃ b nb, u = .pointer (some ⟨b, 0, none⟩) ∧ w'.heap[b]? = some (prgObj (oneP p t) sa sc (some ⟨nb, 0, none⟩) 1) ∧ TsksAt w' (some ⟨nb, 0, none⟩) [t] ∧ Below V.heap.size V w')
  case first =>
    obtain ⟨U, hU⟩ : ∃ U : World, V.alloc (.cells #[.slice none 0 0, .slice none 0 0] 25) = U := ⟨_, rfl⟩
    obtain ⟨UR, hUR⟩ : ∃ X : World, U.alloc (.cells #[.string t.name, .int .i64 t.period, .slice q.va t.vars.length q.vc, .slice q.aa t.arrays.length q.ac, .int .u8 t.body.kind, .int .i64 t.body.num, .string t.body.name, .slice q.ka t.body.len q.kc] 37) = X := ⟨_, rfl⟩
    obtain ⟨VR, hVR⟩ : ∃ X : World, V.alloc (.cells #[.string t.name, .int .i64 t.period, .slice q.va t.vars.length q.vc, .slice q.aa t.arrays.length q.ac, .int .u8 t.body.kind, .int .i64 t.body.num, .string t.body.name, .slice q.ka t.body.len q.kc] 37) = X := ⟨_, rfl⟩
    obtain ⟨VB, hVB⟩ : ∃ X : World, VR.alloc (.cells #[.slice none 0 0, .slice none 0 0] 25) = X := ⟨_, rfl⟩
    have hBU : Below V.heap.size V U := by rw [← hU]; exact mem_alloc _ _
    have hBUR : Below U.heap.size U UR := by rw [← hUR]; exact mem_alloc _ _
    have hBVR : Below V.heap.size V VR := by rw [← hVR]; exact mem_alloc _ _
    have hBVB : Below VR.heap.size VR VB := by rw [← hVB]; exact mem_alloc _ _
    have hXU : U.heap[V.heap.size]? = some (.cells #[.slice none 0 0, .slice none 0 0] 25) := by rw [← hU]; exact mem_new _ _
    have hXUR : UR.heap[U.heap.size]? = some (tskObj t q) := by rw [← hUR]; exact mem_new _ _
    have hXVR : VR.heap[V.heap.size]? = some (tskObj t q) := by rw [← hVR]; exact mem_new _ _
    have hXVB : VB.heap[VR.heap.size]? = some (.cells #[.slice none 0 0, .slice none 0 0] 25) := by rw [← hVB]; exact mem_new _ _
    have z0 := cell_below hBU y0
    have z1 := cell_below hBU y1
    have d0 := cell_below hBU g0
    have d1 := cell_below hBU g1
    have d2 := cell_below hBU g2
    have d3 := cell_below hBU g3
    have d4 := cell_below hBU g4
    have d5 := cell_below hBU g5
    have d6 := cell_below hBU g6
    have d7 := cell_below hBU g7
    have m0 := cell_below hBUR z0
    have m1 := cell_below hBVR y0
    have m2 := cell_below hBVB m1
    have n0 : UR.cell? ⟨V.heap.size, 0, none⟩ = some (.slice none 0 0) := mem_cell (mem_keep hXU hBUR) 0
    have n1 : UR.cell? ⟨V.heap.size, 1, none⟩ = some (.slice none 0 0) := mem_cell (mem_keep hXU hBUR) 1
    have n2 : UR.frozen? ⟨V.heap.size, 0, none⟩ = false := mem_free (mem_keep hXU hBUR) 0
    have n3 : UR.frozen? ⟨V.heap.size, 1, none⟩ = false := mem_free (mem_keep hXU hBUR) 1
    have o0 : VB.cell? ⟨VR.heap.size, 0, none⟩ = some (.slice none 0 0) := mem_cell hXVB 0
    have o1 : VB.cell? ⟨VR.heap.size, 1, none⟩ = some (.slice none 0 0) := mem_cell hXVB 1
    have o2 : VB.frozen? ⟨VR.heap.size, 0, none⟩ = false := mem_free hXVB 0
    have o3 : VB.frozen? ⟨VR.heap.size, 1, none⟩ = false := mem_free hXVB 1
    have H1 := Lib.hid (And.intro (mem_then hBU hBUR) (And.intro (mem_keep hXU hBUR) hXUR))
    have H2 := Lib.hid (And.intro (mem_then hBVR hBVB) (And.intro hXVB (mem_keep hXVR hBVB)))
    have H2S : Hid (V.heap.size ≤ VR.heap.size) := hBVR.size
    clear hBU hBUR hBVR hBVB hXU hXUR hXVR hXVB
    go_region
    · go_wp2_with fail
      go_meet
      exact ⟨VR.heap.size, V.heap.size, rfl, one_end H2.out.1 H2.out.2.1 H2.out.2.2 (by have := H2.out.1.size; have := H2S.out; omega) HTI.out⟩
    · go_wp2_with fail
      go_meet
      exact ⟨V.heap.size, U.heap.size, rfl, one_end H1.out.1 H1.out.2.1 H1.out.2.2 (Nat.le_refl _) HTI.out⟩
  obtain ⟨b, nb, rfl, hbx, htk, hBc⟩ := hcut
  have HBX := Lib.hid hbx
  have HTK := Lib.hid htk
  have HBC0 := Lib.hid hBc
  have HBC := Lib.hid (mem_then HV.out hBc)
  have HFE : Hid (F = lowFn p.shared t) := by show _ = _; rw [HF.out, Int.toNat_natCast, HT.out]
  have HR : Hid (taskR (oneP p t) 0 = (F, 0)) := by
    have h1 := one_ok HOK.out HJ.out
    rw [HT.out] at h1
    show _ = _
    unfold taskR
    rw [if_neg (by rw [h1]; simp), if_neg (by show ¬ ((0 : Int) < 0 ∨ ((1 : Nat) : Int) ≤ 0); omega), HFE.out]
    rfl
  have q0 : wc.cell? ⟨b, 0, none⟩ = some (.slice sa p.shared.length sc) := mem_cell hbx 0
  have q1 : wc.cell? ⟨b, 1, none⟩ = some (.slice (some ⟨nb, 0, none⟩) 1 1) := mem_cell hbx 1
  have hq := task_any (oneP p t) 0 wc sa (some ⟨nb, 0, none⟩) sc 1 ⟨(HK.out wc HBC.out).2.1.1, htk⟩ (HK.out wc HBC.out).2.2.2 (by unfold isI64; decide)
  rw [HR.out] at hq
  have HQ := Lib.hid hq
  clear hbx htk hBc hq y0 y1 g0 g1 g2 g3 g4 g5 g6 g7 v0 v1 v2 v3
  go_wp2_with fail
  clear q0 q1
  refine HQ.out.mono ?_
  rintro e w4 ⟨ga, gc, ha, hc, rfl, hgn, hB4⟩
  simp only [HNN.out.1, HNN.out.2]
  obtain ⟨Y, hY⟩ : ∃ X : World, w4.alloc (fnObj F.name F.regs (.slice ga an gc) (.slice ha bn hc)) = X := ⟨_, rfl⟩
  have hY0 : Below w4.heap.size w4 Y := by rw [← hY]; exact mem_alloc _ _
  have hYX : Y.heap[w4.heap.size]? = some (fnObj F.name F.regs (.slice ga an gc) (.slice ha bn hc)) := by rw [← hY]; exact mem_new _ _
  have HB4 := Lib.hid (mem_then (mem_then HBC0.out hB4) hY0)
  have HGN := Lib.hid (hgn.at_.below hY0)
  have hfx := mem_keep HVX.out HB4.out
  obtain ⟨u0, u1, u2, u3, _⟩ := fn_four hYX
  obtain ⟨v0, v1, v2, v3, _⟩ := fn_four hfx
  have hq := eqFn_any F F Y aa ba ga ha ac bc gc hc (HFN.out.below HB4.out) HGN.out
  simp only [HNN.out.1, HNN.out.2] at hq
  have HE := Lib.hid hq
  clear hgn hB4 hY0 hYX hfx hq HQ
  go_wp2_with fail
  refine HE.out.mono ?_
  rintro e w5 ⟨⟨bb, rfl, hbb⟩, hB5⟩
  obtain rfl : bb = true := hbb.2 trivial
  have HB5 := Lib.hid (mem_then (mem_then HV.out HB4.out) hB5)
  clear hB5 hbb
  go_wp2_with fail
  go_ret
  exact ⟨rfl, (HK.out w5 HB5.out).2.2.1⟩
end Go.Proofs.YtkpdngfkdmllkaaDoor

/-
  Contract: lower.Program.
-/
namespace Go.Proofs.YtkpdngfkdmllkaaDoor
set_option linter.unusedVariables false
set_option linter.unusedSimpArgs false
open Go.RowKit Go.Maps
set_option maxRecDepth 100000
set_option maxHeartbeats 8000000

/-- a function whose rows lie apart from the row of functions itself -/
def FnOff (v : Value) (w : World) (F : Fn) (aa ba : Option Addr) : Prop := ∀ w' : World, (∀ k, k < w.heap.size → v.ownBlock ≠ some k → w'.heap[k]? = w.heap[k]?) → FnAt w' F aa ba
structure FnPlace where
  fn : Fn
  aa : Option Addr
  ac : Nat
  ba : Option Addr
  bc : Nat
def FnPlace.cells (x : FnPlace) : List Value := [.string x.fn.name, .int .i64 x.fn.regs, .slice x.aa x.fn.arrays.length x.ac, .slice x.ba x.fn.blocks.length x.bc]
theorem FnPlace.cells_len (x : FnPlace) : x.cells.length = 4 := rfl
theorem FnPlace.one (x : FnPlace) : ∀ u ∈ x.cells, u.oneCell' = true := by
  intro u hu
  simp only [FnPlace.cells, List.mem_cons, List.not_mem_nil, or_false] at hu
  rcases hu with rfl | rfl | rfl | rfl <;> rfl
/-- a row of functions -/
structure FnsAt (N : Nat) (w : World) (v : Value) (L : List FnPlace) : Prop where
  ro : w.ownsRow N 29 4 v L.length (L.flatMap FnPlace.cells)
  ri : ∀ x ∈ L, FnOff v w x.fn x.aa x.ba
theorem FnOff.keep {v : Value} {w w' : World} {F : Fn} {aa ba : Option Addr} (h : FnOff v w F aa ba) (hB : Below w.heap.size w w') : FnOff v w' F aa ba :=
  fun w2 h2 => h w2 (fun k hk hn => (h2 k (Nat.lt_of_lt_of_le hk hB.size) hn).trans (hB.block k hk))
/-- a function lies apart from the row where only that row has changed, and lies there or anew -/
theorem FnOff.grown {v v' : Value} {w w' : World} {F : Fn} {aa ba : Option Addr} (h : FnOff v w F aa ba) (hs : w.heap.size ≤ w'.heap.size) (hg : ∀ k, k < w.heap.size → v.ownBlock ≠ some k → w'.heap[k]? = w.heap[k]?) (hv : ∀ k, k < w.heap.size → v.ownBlock ≠ some k → v'.ownBlock ≠ some k) : FnOff v' w' F aa ba :=
  fun w2 h2 => h w2 (fun k hk hn => (h2 k (Nat.lt_of_lt_of_le hk hs) (hv k hk hn)).trans (hg k hk hn))
theorem FnNew.off {N : Nat} {v : Value} {w : World} {F : Fn} {aa ba : Option Addr} (h : FnNew N w F aa ba) (hv : ∀ k, v.ownBlock = some k → k < N) : FnOff v w F aa ba :=
  fun w2 h2 => h w2 (fun k h3 h4 => h2 k h4 (fun e => absurd (hv k e) (by omega)))
theorem FnOff.at_ {v : Value} {w : World} {F : Fn} {aa ba : Option Addr} (h : FnOff v w F aa ba) : FnAt w F aa ba := h w (fun _ _ _ => rfl)
theorem FnsAt.keep {N : Nat} {w w' : World} {v : Value} {L : List FnPlace} (h : FnsAt N w v L) (hB : Below w.heap.size w w') : FnsAt N w' v L :=
  ⟨own_below h.ro hB, fun x hx => (h.ri x hx).keep hB⟩
theorem FnsAt.down {N N' : Nat} {w : World} {v : Value} {L : List FnPlace} (h : FnsAt N w v L) (hN : N' ≤ N) : FnsAt N' w v L := ⟨own_down h.ro hN, h.ri⟩
theorem FnsAt.nil {N : Nat} {w : World} : FnsAt N w (.slice none 0 0) [] := ⟨World.ownsRow_nil _ _ _ _, by simp⟩
theorem Tryd.infoFnL : (Tryd.prog.info? 29).map (fun i => (i.zero, i.size, i.bytes)) = some (some (.agg #[.string ⟨#[]⟩, .int .i64 0, .slice none 0 0, .slice none 0 0]), 4, 72) := by kernel_rfl
/-- what Program answers -/
def ProgRet (p : Prg) (w : World) (e : Ending) (w' : World) : Prop := ∃ la lc L, e = .returned (.tuple #[.slice la L.length lc, .int .i64 (if okP p then 0 else 3)]) ∧ FnsAt w.heap.size w' (.slice la L.length lc) L ∧ L.map (·.fn) = (if okP p then p.tasks.map (lowFn p.shared) else []) ∧ Below w.heap.size w w'
theorem fn_newL (w : World) (x : FnPlace) : ∀ (n : Nat) (u : Value), x.cells[n]? = some u → (w.alloc (.cells #[.string x.fn.name, .int .i64 x.fn.regs, .slice x.aa x.fn.arrays.length x.ac, .slice x.ba x.fn.blocks.length x.bc] 29)).cell? ((⟨w.heap.size, 0, none⟩ : Addr).add n) = some u := by
  intro n u hu
  have h := mem_new w (.cells #[.string x.fn.name, .int .i64 x.fn.regs, .slice x.aa x.fn.arrays.length x.ac, .slice x.ba x.fn.blocks.length x.bc] 29)
  have e : (⟨w.heap.size, 0, none⟩ : Addr).add n = ⟨w.heap.size, n, none⟩ := by
    cases n with
    | zero => rfl
    | succ n => simp [Addr.add]
  rw [e, mem_cell h n]
  exact (List.getElem?_toArray ..).trans hu
theorem program_any (p : Prg) (w : World) (sa ta : Option Addr) (sc tc : Nat) (hp : PrgAt w p sa ta) (hg : SignsIn w) :
    Calls Tryd.prog 18 #[p.val sa sc ta tc] w (ProgRet p w) := by
  have htl := hp.2.1
  obtain ⟨A0, h0⟩ : ∃ A0 : World, w.alloc (prgObj p sa sc ta tc) = A0 := ⟨_, rfl⟩
  have HB0 : Hid (Below w.heap.size w A0) := by show Below _ _ _; rw [← h0]; exact mem_alloc _ _
  have HX0 : Hid (A0.heap[w.heap.size]? = some (prgObj p sa sc ta tc)) := by show _ = _; rw [← h0]; exact mem_new _ _
  have HK : Hid (∀ w', Below A0.heap.size A0 w' → w'.heap[w.heap.size]? = some (prgObj p sa sc ta tc) ∧ PrgAt w' p sa ta ∧ Below w.heap.size w w' ∧ SignsIn w') := fun w' h =>
    ⟨mem_keep HX0.out h, hp.below (mem_then HB0.out h), mem_then HB0.out h, hg.below (mem_then HB0.out h)⟩
  obtain ⟨ok, hok⟩ : ∃ b, okP p = b := ⟨_, rfl⟩
  have HOK := Lib.hid hok
  have y0 : A0.cell? ⟨w.heap.size, 0, none⟩ = some (.slice sa p.shared.length sc) := mem_cell HX0.out 0
  have y1 : A0.cell? ⟨w.heap.size, 1, none⟩ = some (.slice ta p.tasks.length tc) := mem_cell HX0.out 1
  have hq := ok15_any p A0 sa ta sc tc (HK.out A0 (Below.refl _ _)).2.1 (HK.out A0 (Below.refl _ _)).2.2.2
  rw [hok] at hq
  have HQ := Lib.hid hq
  clear hp hg hok hq
  go_enter Tryd.func18, Tryd.ntmps18
  go_wp2_with fail
  clear h0 y0 y1
  refine HQ.out.mono ?_
  rintro e w1 ⟨rfl, hB1⟩
  have HB1 := Lib.hid hB1
  clear hB1 HQ
  cases ok with
  | false =>
    go_wp2_with fail
    exact bodyPost_ret (v := .tuple #[.slice none 0 0, .int .i64 3]) (by simp [results, Tryd.results18, go_sem]) rfl ⟨none, 0, [], by rw [HOK.out]; rfl, FnsAt.nil, by rw [HOK.out]; rfl, (HK.out w1 HB1.out).2.2.1⟩
  | true =>
  have y1 : w1.cell? ⟨w.heap.size, 1, none⟩ = some (.slice ta p.tasks.length tc) := mem_cell (HK.out w1 HB1.out).1 1
  go_wp2_with fail
  clear y1
  obtain ⟨ti, hti, hz0, hz1, hz2⟩ := info_parts Tryd.infoFnL
  go_loopw [4, 13] (fun lv iv wr => ∃ (j : Nat) (L : List FnPlace), j ≤ p.tasks.length ∧ iv = .int .i64 (j : Int) ∧ L.map (·.fn) = (p.tasks.take j).map (lowFn p.shared) ∧ FnsAt A0.heap.size wr lv L ∧ Below A0.heap.size A0 wr) (fun _ iv _ => p.tasks.length - (intOf iv).toNat)
  case atStart => exact ⟨0, [], Nat.zero_le _, rfl, rfl, FnsAt.nil, HB1.out⟩
  case round =>
    obtain ⟨j, L, hj, rfl, hL, hfs, hB⟩ := hrel
    have HL := Lib.hid hL
    have HB := Lib.hid hB
    have HLL : Hid (L.length = j) := by have h9 := congrArg List.length hL; rw [List.length_map, List.length_map, List.length_take] at h9; show _ = _; omega
    obtain ⟨la, lc, rfl⟩ := own_val hfs.ro
    obtain ⟨n, hn⟩ : ∃ n, L.length = n := ⟨_, rfl⟩
    have HN := Lib.hid hn
    rw [hn] at hfs ⊢
    have HFS := Lib.hid hfs
    have hj0 : (0 : Int) ≤ (j : Int) := by omega
    clear hL hfs hB hn
    by_cases hlt : j < p.tasks.length
    · have hlt2 : (j : Int) < (p.tasks.length : Int) := by omega
      have HLT : Hid (j < p.tasks.length) := hlt
      obtain ⟨bb, off, q, rfl, hc, hin⟩ := (HK.out wr HB.out).2.1.2.2 j hlt
      obtain ⟨t, ht⟩ : ∃ t, p.tasks.getD j Tsk.none = t := ⟨_, rfl⟩
      have HT := Lib.hid ht
      have hto := (prgOk_le (okP_ok HOK.out)).2.2 j hlt
      rw [ht] at hc hin hto
      have HTO := Lib.hid hto
      obtain ⟨⟨g0, g1, g2, g3, g4, g5, g6, g7⟩, hbl⟩ := tsk_cells (Below.refl _ _) hc
      obtain ⟨D, hD⟩ : ∃ D : World, wr.alloc (tskObj t q) = D := ⟨_, rfl⟩
      have hBD : Below wr.heap.size wr D := by rw [← hD]; exact mem_alloc _ _
      have HX : Hid (D.heap[wr.heap.size]? = some (tskObj t q)) := by show _ = _; rw [← hD]; exact mem_new _ _
      have HBD0 := Lib.hid hBD
      have HBD : Hid (Below A0.heap.size A0 D) := mem_then HB.out hBD
      have HIN := Lib.hid (hin.below hBD)
      have x0 := mem_cell HX.out 0
      have x1 := mem_cell HX.out 1
      have x2 := mem_cell HX.out 2
      have x3 := mem_cell HX.out 3
      have x4 := mem_cell HX.out 4
      have x5 := mem_cell HX.out 5
      have x6 := mem_cell HX.out 6
      have x7 := mem_cell HX.out 7
      simp only [List.getElem?_toArray, List.getElem?_cons_zero, List.getElem?_cons_succ] at x0 x1 x2 x3 x4 x5 x6 x7
      have y0 : D.cell? ⟨w.heap.size, 0, none⟩ = some (.slice sa p.shared.length sc) := mem_cell (HK.out D HBD.out).1 0
      have y1 : D.cell? ⟨w.heap.size, 1, none⟩ = some (.slice (some ⟨bb, off, none⟩) p.tasks.length tc) := mem_cell (HK.out D HBD.out).1 1
      have hq := translate_any p t q sa (some ⟨bb, off, none⟩) sc tc D (HK.out D HBD.out).2.1.1 HIN.out (by have := (prgOk_le (okP_ok HOK.out)).1; omega) (by have := (tskOk_le HTO.out).2.1; omega) (by have := (tskOk_le HTO.out).1; omega) (by have := (tskOk_le HTO.out).2.2; omega) (tskOk_body HTO.out)
      unfold Tsk.cells at hq
      obtain ⟨F, hF⟩ : ∃ F, lowFn p.shared t = F := ⟨_, rfl⟩
      have HF := Lib.hid hF
      have HNM : Hid (t.name = F.name) := by show _ = _; rw [← hF]; rfl
      rw [hF] at hq
      have HQ := Lib.hid hq
      clear hc hin ht hto hq hF hBD hbl hlt
      go_wp2_with fail
      clear g0 g1 g2 g3 g4 g5 g6 g7 x0 x1 x2 x3 x4 x5 x6 x7 y0 y1 hD
      refine HQ.out.mono ?_
      rintro e w3 ⟨aa, ac, ba, bc, rfl, hfn, hB3⟩
      obtain ⟨x, hx⟩ : ∃ x : FnPlace, FnPlace.mk F aa ac ba bc = x := ⟨_, rfl⟩
      have HX9 : Hid (∀ (u : World), w3.alloc (.cells #[.string t.name, .int .i64 F.regs, .slice aa F.arrays.length ac, .slice ba F.blocks.length bc] 29) = u → Below w3.heap.size w3 u ∧ ∀ (m : Nat) (v : Value), x.cells[m]? = some v → u.cell? ((⟨w3.heap.size, 0, none⟩ : Addr).add m) = some v) := fun u hu => by
        rw [← hu]
        refine ⟨mem_alloc _ _, ?_⟩
        rw [HNM.out, ← hx]
        exact fn_newL w3 _
      have HFN : Hid (FnNew D.heap.size w3 x.fn x.aa x.ba) := by show FnNew _ _ _ _ _; rw [← hx]; exact hfn
      have HXF : Hid (x.fn = lowFn p.shared (p.tasks.getD j Tsk.none)) := by show _ = _; rw [← hx, HT.out]; exact HF.out.symm
      have HB30 := Lib.hid hB3
      have HB3 := Lib.hid (mem_then HBD.out hB3)
      clear hfn hB3 HQ hx
      obtain ⟨an, han⟩ : ∃ n, F.arrays.length = n := ⟨_, rfl⟩
      obtain ⟨bn, hbn⟩ : ∃ n, F.blocks.length = n := ⟨_, rfl⟩
      simp only [han, hbn] at HX9 ⊢
      clear han hbn
      obtain ⟨D2, hD2⟩ : ∃ V : World, w3.alloc (.cells #[.string t.name, .int .i64 F.regs, .slice aa an ac, .slice ba bn bc] 29) = V := ⟨_, rfl⟩
      have hD2' := HX9.out D2 hD2
      have HLIT := Lib.hid hD2'.2
      have HBX2 := Lib.hid hD2'.1
      have HBV0 := Lib.hid (mem_then HB30.out hD2'.1)
      have HBV : Hid (Below A0.heap.size A0 D2) := mem_then HB3.out hD2'.1
      have HOV := Lib.hid ((HFS.out.keep HBD0.out).keep HBV0.out)
      have HOV2 : Hid (D2.ownsRow A0.heap.size 29 4 (.slice la n lc) n (L.flatMap FnPlace.cells)) := by have h9 := HOV.out.ro; rw [HN.out] at h9; exact h9
      have HNB : Hid (n ≤ 16) := by have h9 := (prgOk_le (okP_ok HOK.out)).2.1; have h8 := HLL.out; have h7 := HN.out; show _ ≤ _; omega
      clear hD2' HX9
      go_wp2_with (at_builtin; refine wpList_append_row _ rfl (.tmp 17) (.tmp 21) 59 rfl A0.heap.size 29 ti _ 4 72 Tryd.underlying59 hti hz0 hz1 hz2 rfl (by decide) (.slice la n lc) n (L.flatMap FnPlace.cells) rfl HOV2.out ⟨w3.heap.size, 0, none⟩ 1 1 x.cells rfl rfl HLIT.out x.one (by decide) (by have := HNB.out; unfold maxLen; omega) (by have := HNB.out; omega) HBV.out.size ?_)
      intro g cap w4 hown4 hg4 hpl
      have HG4 : Hid (∀ k, k < D2.heap.size → (Value.slice la n lc).ownBlock ≠ some k → (Value.slice (some ⟨g, 0, none⟩) (n + 1) cap).ownBlock ≠ some k) := fun k hk hn e => by
        have e : some g = some k := e
        injection e with e
        subst e
        rcases hpl with h | h
        · exact hn h
        · omega
      have HR4 : Hid (FnsAt A0.heap.size w4 (.slice (some ⟨g, 0, none⟩) (n + 1) cap) (L ++ [x])) := by
        refine ⟨?_, fun y hy => ?_⟩
        · rw [List.length_append, HN.out, List.flatMap_append]
          simpa using hown4
        · rcases List.mem_append.1 hy with h | h
          · exact (HOV.out.ri y h).grown hg4.size (fun k hk hn => hg4.block k hk (fun e => hn e.symm)) HG4.out
          · obtain rfl := List.mem_singleton.1 h
            have h1 : FnNew D.heap.size D2 y.fn y.aa y.ba := HFN.out.move HBX2.out.size (fun k _ h2 => HBX2.out.block k h2)
            exact (h1.off (v := .slice la n lc) (fun k hk => Nat.lt_of_lt_of_le (own_lt HFS.out.ro hk).2 HBD0.out.size)).grown hg4.size (fun k hk hn => hg4.block k hk (fun e => hn e.symm)) HG4.out
      have HB4 : Hid (Below A0.heap.size A0 w4) := HBV.out.grown hg4 HBV.out.size (fun k hk => (own_lt HOV2.out hk).1)
      have HLN : Hid ((L ++ [x]).map (·.fn) = (p.tasks.take (j + 1)).map (lowFn p.shared)) := by
        show _ = _
        rw [List.map_append, HL.out, List.map_cons, List.map_nil, HXF.out, take_more (d := Tsk.none) HLT.out, List.map_append]
        rfl
      have HLX : Hid ((L ++ [x]).length = n + 1) := by show _ = _; rw [List.length_append, HN.out]; rfl
      clear hown4 hg4 hpl hD2
      go_wp2_with fail
      go_roundw
      case rel => exact ⟨j + 1, L ++ [x], by have := HLT.out; omega, by go_num, HLN.out, HR4.out, HB4.out⟩
      case measure => have := HLT.out; simp [intOf]; omega
    · obtain rfl : j = p.tasks.length := by omega
      go_wp2_with fail
      exact bodyPost_ret (v := .tuple #[.slice la n lc, .int .i64 0]) (by simp [results, Tryd.results18, go_sem]) rfl ⟨la, lc, L, by rw [HN.out, HOK.out]; rfl, by rw [HN.out]; exact HFS.out.down (by have := HB0.out.size; omega), by rw [HL.out, HOK.out, List.take_length]; rfl, (HK.out _ HB.out).2.2.1⟩
end Go.Proofs.YtkpdngfkdmllkaaDoor

/-
  LowerErrors (package ontimelaw18): what is not translated, and that Program translates all tasks.
-/
namespace Go.Proofs.YtkpdngfkdmllkaaDoor
set_option linter.unusedVariables false
set_option linter.unusedSimpArgs false
open Go.RowKit Go.Maps
set_option maxRecDepth 100000
set_option maxHeartbeats 8000000

theorem lowerErrors_any (p : Prg) (k : Int) (w : World) (sa ta : Option Addr) (sc tc : Nat) (hp : PrgAt w p sa ta) (hg : SignsIn w) (hk : isI64 k) :
    Calls Tryd.prog 7 #[p.val sa sc ta tc, .int .i64 k] w fun e w' => e = .returned (.bool true) ∧ Below w.heap.size w w' := by
  have htl := hp.2.1
  have HKK := Lib.hid hk
  have hk1 := hk.1
  have hk2 := hk.2
  obtain ⟨A0, h0⟩ : ∃ A0 : World, w.alloc (prgObj p sa sc ta tc) = A0 := ⟨_, rfl⟩
  have HB0 : Hid (Below w.heap.size w A0) := by show Below _ _ _; rw [← h0]; exact mem_alloc _ _
  have HX0 : Hid (A0.heap[w.heap.size]? = some (prgObj p sa sc ta tc)) := by show _ = _; rw [← h0]; exact mem_new _ _
  have HK : Hid (∀ w', Below A0.heap.size A0 w' → w'.heap[w.heap.size]? = some (prgObj p sa sc ta tc) ∧ PrgAt w' p sa ta ∧ Below w.heap.size w w' ∧ SignsIn w') := fun w' h =>
    ⟨mem_keep HX0.out h, hp.below (mem_then HB0.out h), mem_then HB0.out h, hg.below (mem_then HB0.out h)⟩
  have HYY : Hid (∀ w', Below A0.heap.size A0 w' → w'.cell? ⟨w.heap.size, 0, none⟩ = some (.slice sa p.shared.length sc) ∧ w'.cell? ⟨w.heap.size, 1, none⟩ = some (.slice ta p.tasks.length tc)) := fun w' h => ⟨mem_cell (HK.out w' h).1 0, mem_cell (HK.out w' h).1 1⟩
  clear hp hg hk
  go_enter Tryd.func7, Tryd.ntmps7
  go_wp2_with fail
  clear h0
  refine (lawake_any A0 (HK.out A0 (Below.refl _ _)).2.2.2).mono ?_
  rintro e w1 ⟨rfl, hB1⟩
  have HB1 := Lib.hid hB1
  obtain ⟨y0, y1⟩ := HYY.out w1 hB1
  clear hB1
  go_wp2_with fail
  clear y0 y1
  refine (smallProg_any p w1 sa ta sc tc (HK.out w1 HB1.out).2.1).mono ?_
  rintro e w2 ⟨⟨b1, rfl⟩, hB2⟩
  have HB2 := Lib.hid (mem_then HB1.out hB2)
  obtain ⟨y0, y1⟩ := HYY.out w2 HB2.out
  clear hB2
  cases b1 with
  | false =>
    go_wp2_with fail
    go_ret
    exact ⟨rfl, (HK.out w2 HB2.out).2.2.1⟩
  | true =>
  have hT := task_any p k w2 sa ta sc tc (HK.out w2 HB2.out).2.1 (HK.out w2 HB2.out).2.2.2 HKK.out
  obtain ⟨F, hF⟩ : ∃ F, (taskR p k).1 = F := ⟨_, rfl⟩
  obtain ⟨er, her⟩ : ∃ n, (taskR p k).2 = n := ⟨_, rfl⟩
  have HF : Hid (taskR p k = (F, er)) := by show _ = _; rw [← hF, ← her]
  rw [hF, her] at hT
  have HT := Lib.hid hT
  clear hT hF her
  go_wp2_with fail
  clear y0 y1
  refine HT.out.mono ?_
  rintro e w3 ⟨aa, ac, ba, bc, rfl, hfn, hB3⟩
  obtain ⟨an, hn1⟩ : ∃ n, F.arrays.length = n := ⟨_, rfl⟩
  obtain ⟨bn, hn2⟩ : ∃ n, F.blocks.length = n := ⟨_, rfl⟩
  have HNN : Hid (F.arrays.length = an ∧ F.blocks.length = bn) := ⟨hn1, hn2⟩
  simp only [hn1, hn2]
  obtain ⟨V, hV⟩ : ∃ X : World, w3.alloc (fnObj F.name F.regs (.slice aa an ac) (.slice ba bn bc)) = X := ⟨_, rfl⟩
  have HV0 : Hid (Below w3.heap.size w3 V) := by show Below _ _ _; rw [← hV]; exact mem_alloc _ _
  have HVX : Hid (V.heap[w3.heap.size]? = some (fnObj F.name F.regs (.slice aa an ac) (.slice ba bn bc))) := by show _ = _; rw [← hV]; exact mem_new _ _
  have HFN := Lib.hid (hfn.at_.below HV0.out)
  have HV := Lib.hid (mem_then (mem_then HB2.out hB3) HV0.out)
  obtain ⟨v0, v1, v2, v3, _⟩ := fn_four HVX.out
  obtain ⟨y0, y1⟩ := HYY.out V HV.out
  clear hfn hB3 hn1 hn2 HT
  go_wp2_with fail
  clear y0 y1 v0 v1 v2 v3 hV
  refine (program_any p V sa ta sc tc (HK.out V HV.out).2.1 (HK.out V HV.out).2.2.2).mono ?_
  rintro e w4 ⟨la, lc, L, rfl, hfs, hL, hB4⟩
  have HFS := Lib.hid hfs
  have HL := Lib.hid hL
  have HB40 := Lib.hid hB4
  have HB4 := Lib.hid (mem_then HV.out hB4)
  obtain ⟨y0, y1⟩ := HYY.out w4 HB4.out
  obtain ⟨ok, hok⟩ : ∃ b, okP p = b := ⟨_, rfl⟩
  have HOK := Lib.hid hok
  obtain ⟨n, hn⟩ : ∃ n, L.length = n := ⟨_, rfl⟩
  have HN := Lib.hid hn
  have hq := ok15_any p w4 sa ta sc tc (HK.out w4 HB4.out).2.1 (HK.out w4 HB4.out).2.2.2
  rw [hok] at hq
  have HQ := Lib.hid hq
  rw [hn, hok]
  clear hfs hL hB4 hok hn hq
  cases ok with
  | false =>
    have h1 : taskR p k = (Fn.zero, 3) := by unfold taskR; rw [if_pos HOK.out]
    rw [HF.out] at h1
    injection h1 with h1 h2
    subst h1 h2
    have hn0 : n = 0 := by have h9 := HL.out; rw [HOK.out] at h9; have h8 := congrArg List.length h9; rw [List.length_map, HN.out] at h8; exact h8
    subst hn0
    obtain rfl : an = 0 := HNN.out.1.symm
    obtain rfl : bn = 0 := HNN.out.2.symm
    have HZQ : Hid (∀ w', Below V.heap.size V w' → Calls Tryd.prog 16 #[.agg #[.string ⟨#[]⟩, .int .i64 0, .slice aa 0 ac, .slice ba 0 bc], .agg #[.string ⟨#[]⟩, .int .i64 0, .slice none 0 0, .slice none 0 0]] w' (EqSays (Fn.zero = Fn.zero) w')) := fun w' h => eqFn_any Fn.zero Fn.zero w' aa ba none none ac bc 0 0 (HFN.out.below h) (Fn.zero_at w'.heap.size w').at_
    go_wp2_with fail
    clear y0 y1
    refine HQ.out.mono ?_
    rintro e w5 ⟨rfl, hB5⟩
    have HB5 := Lib.hid (mem_then HB40.out hB5)
    have hfx := mem_keep HVX.out HB5.out
    have HB5A := Lib.hid (mem_then HB4.out hB5)
    obtain ⟨v0, v1, v2, v3, _⟩ := fn_four hfx
    have v0 : w5.cell? ⟨w3.heap.size, 0, none⟩ = some (.string ⟨#[]⟩) := v0
    have v1 : w5.cell? ⟨w3.heap.size, 1, none⟩ = some (.int .i64 0) := v1
    clear hB5 hfx HQ
    go_wp2_with fail
    refine (HZQ.out w5 HB5.out).mono ?_
    rintro e w6 ⟨⟨bb, rfl, hbb⟩, hB6⟩
    obtain rfl : bb = true := hbb.2 trivial
    have HB6 := Lib.hid (mem_then HB5A.out hB6)
    clear hB6 hbb
    go_wp2_with fail
    go_ret
    exact ⟨rfl, (HK.out w6 HB6.out).2.2.1⟩
  | true =>
    have hLT : L.map (·.fn) = p.tasks.map (lowFn p.shared) := by have h9 := HL.out; rw [HOK.out] at h9; exact h9
    have HLT := Lib.hid hLT
    have hnt : n = p.tasks.length := by have h8 := congrArg List.length hLT; rw [List.length_map, List.length_map, HN.out] at h8; exact h8
    subst hnt
    clear hLT
    go_wp2_with fail
    clear y0 y1
    refine HQ.out.mono ?_
    rintro e w5 ⟨rfl, hB5⟩
    have HB50 := Lib.hid (mem_then HB40.out hB5)
    have HB5 := Lib.hid (mem_then HB4.out hB5)
    have HFS5 := Lib.hid (HFS.out.keep hB5)
    obtain ⟨y0, y1⟩ := HYY.out w5 HB5.out
    clear hB5 HQ
    go_wp2_with fail
    clear y0 y1
    go_loopw [59] (fun iv wr => ∃ j : Nat, j ≤ p.tasks.length ∧ iv = .int .i64 (j : Int) ∧ Below w5.heap.size w5 wr) (fun iv _ => p.tasks.length - (intOf iv).toNat)
    case atStart => exact ⟨0, Nat.zero_le _, rfl, Below.refl _ _⟩
    case round =>
      obtain ⟨j, hj, rfl, hB⟩ := hrel
      have HB6 := Lib.hid hB
      have HB := Lib.hid (mem_then HB5.out hB)
      have hj0 : (0 : Int) ≤ (j : Int) := by omega
      have HFR := Lib.hid (HFS5.out.keep hB)
      obtain ⟨y0, y1⟩ := HYY.out wr HB.out
      clear hB
      by_cases hlt : j < p.tasks.length
      · have hlt2 : (j : Int) < (p.tasks.length : Int) := by omega
        have HLTT : Hid (j < p.tasks.length) := hlt
        have hjl : j < L.length := by rw [HN.out]; exact hlt
        obtain ⟨x, hx⟩ : ∃ x, L[j]? = some x := ⟨_, List.getElem?_eq_getElem hjl⟩
        obtain ⟨G, hG⟩ : ∃ G, lowFn p.shared (p.tasks.getD j Tsk.none) = G := ⟨_, rfl⟩
        have hxG : x.fn = G := by
          have h9 := congrArg (fun l => l[j]?) HLT.out
          simp only [List.getElem?_map, hx] at h9
          rw [List.getElem?_eq_getElem hlt] at h9
          injection h9 with h9
          have h9 : x.fn = _ := h9
          rw [h9, ← hG]
          simp [hlt]
        have HXO := Lib.hid (HFR.out.ri x (List.mem_of_getElem? hx))
        have HR : Hid (taskR p (j : Int) = (G, 0)) := by
          show _ = _; unfold taskR; rw [if_neg (by rw [HOK.out]; simp), if_neg (by omega), Int.toNat_natCast, hG]
        have hro := HFR.out.ro
        rw [HN.out] at hro
        obtain ⟨gl, rfl, _, _⟩ := own_at hro (by omega)
        have key : ∀ o u, o < 4 → x.cells[o]? = some u → wr.cell? ⟨gl, j * 4 + o, none⟩ = some u := fun o u ho hu => own_cell hro ((flat_get FnPlace.cells_len hx ho).trans hu)
        obtain ⟨xn, xa, xac, xb, xbc⟩ := x
        have hxG : xn = G := hxG
        subst hxG
        obtain ⟨an2, hn1⟩ : ∃ n, xn.arrays.length = n := ⟨_, rfl⟩
        obtain ⟨bn2, hn2⟩ : ∃ n, xn.blocks.length = n := ⟨_, rfl⟩
        have HN2 : Hid (xn.arrays.length = an2 ∧ xn.blocks.length = bn2) := ⟨hn1, hn2⟩
        have r0 : wr.cell? ⟨gl, j * 4, none⟩ = some (.string xn.name) := key 0 _ (by omega) rfl
        have r1 : wr.cell? ⟨gl, j * 4 + 1, none⟩ = some (.int .i64 xn.regs) := key 1 _ (by omega) rfl
        have r2 : wr.cell? ⟨gl, j * 4 + 2, none⟩ = some (.slice xa an2 xac) := by rw [← hn1]; exact key 2 _ (by omega) rfl
        have r3 : wr.cell? ⟨gl, j * 4 + 3, none⟩ = some (.slice xb bn2 xbc) := by rw [← hn2]; exact key 3 _ (by omega) rfl
        have HRR : Hid (∀ w', Below wr.heap.size wr w' → w'.cell? ⟨gl, j * 4, none⟩ = some (.string xn.name) ∧ w'.cell? ⟨gl, j * 4 + 1, none⟩ = some (.int .i64 xn.regs) ∧ w'.cell? ⟨gl, j * 4 + 2, none⟩ = some (.slice xa an2 xac) ∧ w'.cell? ⟨gl, j * 4 + 3, none⟩ = some (.slice xb bn2 xbc)) := fun w' h => ⟨cell_below h r0, cell_below h r1, cell_below h r2, cell_below h r3⟩
        have hT := task_any p (j : Int) wr sa ta sc tc (HK.out wr HB.out).2.1 (HK.out wr HB.out).2.2.2 (by unfold isI64; omega)
        rw [HR.out] at hT
        have HT := Lib.hid hT
        clear hT hx hG hro key r0 r1 r2 r3 hn1 hn2 hlt hjl
        go_wp2_with fail
        clear y0 y1
        refine HT.out.mono ?_
        rintro e w7 ⟨ga, gc, ha, hc, rfl, hgn, hB7⟩
        simp only [HN2.out.1, HN2.out.2]
        obtain ⟨Y, hY⟩ : ∃ X : World, w7.alloc (fnObj xn.name xn.regs (.slice ga an2 gc) (.slice ha bn2 hc)) = X := ⟨_, rfl⟩
        have hY0 : Below w7.heap.size w7 Y := by rw [← hY]; exact mem_alloc _ _
        have hYX : Y.heap[w7.heap.size]? = some (fnObj xn.name xn.regs (.slice ga an2 gc) (.slice ha bn2 hc)) := by rw [← hY]; exact mem_new _ _
        have HBY0 := Lib.hid (mem_then hB7 hY0)
        have HBY := Lib.hid (mem_then HB6.out HBY0.out)
        have HGN := Lib.hid (hgn.at_.below hY0)
        obtain ⟨u0, u1, u2, u3, _⟩ := fn_four hYX
        obtain ⟨r0, r1, r2, r3⟩ := HRR.out Y HBY0.out
        have HQE : Hid (∀ w', Below Y.heap.size Y w' → Calls Tryd.prog 16 #[fnVal xn.name xn.regs ga an2 gc ha bn2 hc, fnVal xn.name xn.regs xa an2 xac xb bn2 xbc] w' (EqSays (xn = xn) w')) := fun w' h => by
          have hq : Calls Tryd.prog 16 #[fnVal xn.name xn.regs ga xn.arrays.length gc ha xn.blocks.length hc, fnVal xn.name xn.regs xa xn.arrays.length xac xb xn.blocks.length xbc] w' (EqSays (xn = xn) w') := eqFn_any xn xn w' ga ha xa xb gc hc xac xbc (HGN.out.below h) (HXO.out.keep (mem_then HBY0.out h)).at_
          rw [HN2.out.1, HN2.out.2] at hq
          exact hq
        have HYX := Lib.hid hYX
        have HYR : Hid (∀ w', Below Y.heap.size Y w' → (w'.cell? ⟨w7.heap.size, 0, none⟩ = some (.string xn.name) ∧ w'.cell? ⟨w7.heap.size, 1, none⟩ = some (.int .i64 xn.regs) ∧ w'.cell? ⟨w7.heap.size, 2, none⟩ = some (.slice ga an2 gc) ∧ w'.cell? ⟨w7.heap.size, 3, none⟩ = some (.slice ha bn2 hc)) ∧ w'.cell? ⟨gl, j * 4, none⟩ = some (.string xn.name) ∧ w'.cell? ⟨gl, j * 4 + 1, none⟩ = some (.int .i64 xn.regs) ∧ w'.cell? ⟨gl, j * 4 + 2, none⟩ = some (.slice xa an2 xac) ∧ w'.cell? ⟨gl, j * 4 + 3, none⟩ = some (.slice xb bn2 xbc)) := fun w' h => by
          obtain ⟨u0, u1, u2, u3, _⟩ := fn_four (mem_keep HYX.out h)
          exact ⟨⟨u0, u1, u2, u3⟩, HRR.out w' (mem_then HBY0.out h)⟩
        clear hgn hB7 hY0 hYX HT
        go_upto_region 15 with fail
        clear u0 u1 u2 u3 r0 r1 r2 r3 hY
        have HBD : Hid (Below Y.heap.size Y Y.drew) := (Below.refl _ _).drew
        refine wp_region_held_drew (S := fun w' => Below Y.heap.size Y w') (by kernel_rfl) HBD.out (fun hHeld => ?_)
        generalize hwd : World.drew Y = D at hHeld HBD ⊢
        clear hwd
        refine wpAnyH_take (i := 0) (v := .int .i64 0) rfl (by kernel_rfl) (by kernel_rfl) (by kernel_rfl) (fun _ _ _ h => h) (Or.inl ⟨by rfl, ?_⟩) (by assumption) ?_
        · intro w' hSw; go_simp
        (try simp only [Act.put, List.getElem_toArray, List.getElem_cons_zero, List.setIfInBounds_toArray, List.set_cons_zero, List.set_cons_succ])
        refine wpAnyH_take (i := 1) (v := .bool false) rfl (by kernel_rfl) (by kernel_rfl) (by kernel_rfl) (fun _ _ _ h => h) (Or.inl ⟨by rfl, ?_⟩) (by assumption) ?_
        · intro w' hSw; go_simp
        (try simp only [Act.put, List.getElem_toArray, List.getElem_cons_zero, List.getElem_cons_succ, List.setIfInBounds_toArray, List.set_cons_zero, List.set_cons_succ])
        refine wpAnyH_take (i := 2) (v := .bool false) rfl (by kernel_rfl) (by kernel_rfl) (by kernel_rfl) (fun _ _ _ h => h) (Or.inl ⟨by rfl, ?_⟩) (by assumption) ?_
        · intro w' hSw; go_simp
        (try simp only [Act.put, List.getElem_toArray, List.getElem_cons_zero, List.getElem_cons_succ, List.setIfInBounds_toArray, List.set_cons_zero, List.set_cons_succ])
        refine wpAnyH_take (i := 3) (v := .agg #[.string xn.name, .int .i64 xn.regs, .slice ga an2 gc, .slice ha bn2 hc]) rfl (by kernel_rfl) (by kernel_rfl) (by kernel_rfl) (fun _ _ _ h => h) (Or.inl ⟨by rfl, ?_⟩) (by assumption) ?_
        · intro w' hSw; obtain ⟨⟨q0, q1, q2, q3⟩, _⟩ := HYR.out w' hSw; go_simp
        (try simp only [Act.put, List.getElem_toArray, List.getElem_cons_zero, List.getElem_cons_succ, List.setIfInBounds_toArray, List.set_cons_zero, List.set_cons_succ])
        refine wpAnyH_take (i := 4) (v := .slice (some ⟨gl, 0, none⟩) p.tasks.length lc) rfl (by kernel_rfl) (by kernel_rfl) (by kernel_rfl) (fun _ _ _ h => h) (Or.inl ⟨by rfl, ?_⟩) (by assumption) ?_
        · intro w' hSw; go_simp
        (try simp only [Act.put, List.getElem_toArray, List.getElem_cons_zero, List.getElem_cons_succ, List.setIfInBounds_toArray, List.set_cons_zero, List.set_cons_succ])
        refine wpAnyH_take (i := 5) (v := .int .i64 (j : Int)) rfl (by kernel_rfl) (by kernel_rfl) (by kernel_rfl) (fun _ _ _ h => h) (Or.inl ⟨by rfl, ?_⟩) (by assumption) ?_
        · intro w' hSw; go_simp
        (try simp only [Act.put, List.getElem_toArray, List.getElem_cons_zero, List.getElem_cons_succ, List.setIfInBounds_toArray, List.set_cons_zero, List.set_cons_succ])
        refine wpAnyH_take (i := 6) (v := .pointer (some ⟨gl, j * 4, none⟩)) rfl (by kernel_rfl) (by kernel_rfl) (by kernel_rfl) (fun _ _ _ h => h) (Or.inl ⟨by rfl, ?_⟩) (by assumption) ?_
        · intro w' hSw; go_simp
        (try simp only [Act.put, List.getElem_toArray, List.getElem_cons_zero, List.getElem_cons_succ, List.setIfInBounds_toArray, List.set_cons_zero, List.set_cons_succ])
        refine wpAnyH_take (i := 7) (v := .agg #[.string xn.name, .int .i64 xn.regs, .slice xa an2 xac, .slice xb bn2 xbc]) rfl (by kernel_rfl) (by kernel_rfl) (by kernel_rfl) (fun _ _ _ h => h) (Or.inl ⟨by rfl, ?_⟩) (by assumption) ?_
        · intro w' hSw; obtain ⟨_, q0, q1, q2, q3⟩ := HYR.out w' hSw; go_simp
        (try simp only [Act.put, List.getElem_toArray, List.getElem_cons_zero, List.getElem_cons_succ, List.setIfInBounds_toArray, List.set_cons_zero, List.set_cons_succ])
        have HC := Lib.hid (HQE.out D HBD.out)
        refine wpAnyH_ready (rs := [8]) (by kernel_rfl) (by simp) (AllReadyH.cons rfl (fun K hK => ?_) AllReadyH.nil)
        go_simp
        refine HC.out.mono ?_
        rintro e w8 ⟨⟨bb, rfl, hbb⟩, hB8⟩
        obtain rfl : bb = true := hbb.2 rfl
        have HB80 := Lib.hid (mem_then HBD.out hB8)
        have HB8 := Lib.hid (mem_then HBY.out HB80.out)
        clear hB8 hbb HC
        refine hK.out _ _ (HB80.out) (fun hHeld => ?_)
        clear hK K
        rename_i hOld
        clear hOld
        (try simp only [Act.put, List.getElem_toArray, List.getElem_cons_zero, List.getElem_cons_succ, List.setIfInBounds_toArray, List.set_cons_zero, List.set_cons_succ])
        refine wpAnyH_take (i := 9) (v := .bool false) rfl (by kernel_rfl) (by kernel_rfl) (by kernel_rfl) (fun _ _ _ h => h) (Or.inl ⟨by rfl, ?_⟩) (by assumption) ?_
        · intro w' hSw; go_simp
        (try simp only [Act.put, List.getElem_toArray, List.getElem_cons_zero, List.getElem_cons_succ, List.setIfInBounds_toArray, List.set_cons_zero, List.set_cons_succ])
        refine wpAnyH_take (i := 10) (v := .bool false) rfl (by kernel_rfl) (by kernel_rfl) (by kernel_rfl) (fun _ _ _ h => h) (Or.inl ⟨by rfl, ?_⟩) (by assumption) ?_
        · intro w' hSw; go_simp
        (try simp only [Act.put, List.getElem_toArray, List.getElem_cons_zero, List.getElem_cons_succ, List.setIfInBounds_toArray, List.set_cons_zero, List.set_cons_succ])
        refine wpAnyH_done (by kernel_rfl) ?_ _
        clear hHeld
        go_wp2_with fail
        go_roundw
        case rel => exact ⟨j + 1, by have := HLTT.out; omega, by go_num, HB8.out⟩
        case measure => have := HLTT.out; simp [intOf]; omega
      · obtain rfl : j = p.tasks.length := by omega
        clear hlt
        by_cases h0 : k < 0
        · have h0d : decide (k < 0) = true := by simpa using h0
          have h1 : taskR p k = (Fn.zero, 2) := by unfold taskR; rw [if_neg (by rw [HOK.out]; simp), if_pos (by omega)]
          rw [HF.out] at h1
          injection h1 with h1 h2
          subst h1 h2
          obtain rfl : an = 0 := HNN.out.1.symm
          obtain rfl : bn = 0 := HNN.out.2.symm
          have HZQ : Hid (Calls Tryd.prog 16 #[.agg #[.string ⟨#[]⟩, .int .i64 0, .slice aa 0 ac, .slice ba 0 bc], .agg #[.string ⟨#[]⟩, .int .i64 0, .slice none 0 0, .slice none 0 0]] wr (EqSays (Fn.zero = Fn.zero) wr)) := eqFn_any Fn.zero Fn.zero wr aa ba none none ac bc 0 0 (HFN.out.below (mem_then HB50.out HB6.out)) (Fn.zero_at wr.heap.size wr).at_
          obtain ⟨v0, v1, v2, v3, _⟩ := fn_four (mem_keep HVX.out (mem_then HB50.out HB6.out))
          have v0 : wr.cell? ⟨w3.heap.size, 0, none⟩ = some (.string ⟨#[]⟩) := v0
          have v1 : wr.cell? ⟨w3.heap.size, 1, none⟩ = some (.int .i64 0) := v1
          go_wp2_with fail
          refine HZQ.out.mono ?_
          rintro e w9 ⟨⟨bb, rfl, hbb⟩, hB9⟩
          obtain rfl : bb = true := hbb.2 trivial
          have HB9 := Lib.hid (mem_then HB.out hB9)
          clear hB9 hbb
          go_wp2_with fail
          go_ret
          exact ⟨rfl, (HK.out w9 HB9.out).2.2.1⟩
        have h0d : decide (k < 0) = false := by simpa using h0
        by_cases h1 : (p.tasks.length : Int) ≤ k
        · have h1d : decide ((p.tasks.length : Int) ≤ k) = true := by simpa using h1
          have h3 : taskR p k = (Fn.zero, 2) := by unfold taskR; rw [if_neg (by rw [HOK.out]; simp), if_pos (by omega)]
          rw [HF.out] at h3
          injection h3 with h3 h2
          subst h3 h2
          obtain rfl : an = 0 := HNN.out.1.symm
          obtain rfl : bn = 0 := HNN.out.2.symm
          have HZQ : Hid (Calls Tryd.prog 16 #[.agg #[.string ⟨#[]⟩, .int .i64 0, .slice aa 0 ac, .slice ba 0 bc], .agg #[.string ⟨#[]⟩, .int .i64 0, .slice none 0 0, .slice none 0 0]] wr (EqSays (Fn.zero = Fn.zero) wr)) := eqFn_any Fn.zero Fn.zero wr aa ba none none ac bc 0 0 (HFN.out.below (mem_then HB50.out HB6.out)) (Fn.zero_at wr.heap.size wr).at_
          obtain ⟨v0, v1, v2, v3, _⟩ := fn_four (mem_keep HVX.out (mem_then HB50.out HB6.out))
          have v0 : wr.cell? ⟨w3.heap.size, 0, none⟩ = some (.string ⟨#[]⟩) := v0
          have v1 : wr.cell? ⟨w3.heap.size, 1, none⟩ = some (.int .i64 0) := v1
          go_wp2_with fail
          refine HZQ.out.mono ?_
          rintro e w9 ⟨⟨bb, rfl, hbb⟩, hB9⟩
          obtain rfl : bb = true := hbb.2 trivial
          have HB9 := Lib.hid (mem_then HB.out hB9)
          clear hB9 hbb
          go_wp2_with fail
          go_ret
          exact ⟨rfl, (HK.out w9 HB9.out).2.2.1⟩
        have h1d : decide ((p.tasks.length : Int) ≤ k) = false := by simpa using h1
        have h3 : taskR p k = (lowFn p.shared (p.tasks.getD k.toNat Tsk.none), 0) := by unfold taskR; rw [if_neg (by rw [HOK.out]; simp), if_neg (by omega)]
        rw [HF.out] at h3
        injection h3 with h3 h2
        subst h2
        clear h3 h0 h1
        go_wp2_with fail
        go_ret
        exact ⟨rfl, (HK.out wr HB.out).2.2.1⟩
end Go.Proofs.YtkpdngfkdmllkaaDoor

/-
  A node that reads as data lies in memory as a tree.
-/
namespace Go.Proofs.YtkpdngfkdmllkaaDoor
set_option linter.unusedVariables false
set_option linter.unusedSimpArgs false
open Go.ChangeShapes Go.WideShapes Go.ChangeAt Go.RowKit

theorem cellsNode : Tryd.prog.cellsOf 35 = 4 := by kernel_rfl
theorem cellsNode0 : Tryd.prog.cellsOf 5 = 1 := by kernel_rfl
theorem cellsNode1 : Tryd.prog.cellsOf 3 = 1 := by kernel_rfl
theorem cellsNode2 : Tryd.prog.cellsOf 9 = 1 := by kernel_rfl
theorem cellsNode3 : Tryd.prog.cellsOf 33 = 1 := by kernel_rfl

theorem list4 {l : List Value} (h : l.length = 4) : ∃ a b c d, l = [a, b, c, d] := by
  match l, h with
  | [a, b, c, d], _ => exact ⟨a, b, c, d, rfl⟩

theorem le_max {n : Nat} (h : n ≤ maxLen) : n ≤ 9223372036854775807 := by unfold maxLen at h; omega

section
variable {H : Type} {enc : TypeId × Value → H} {w : World} {base : Nat} {sp : Nat → Bool} {held : Bool}
theorem tree_open (fuel : Nat) : ∀ (cs : List Value) (x : DataW H × List MemPlace), DataW.trod enc Tryd.prog w base sp held fuel 35 cs = some x →
    ∃ (t : Tree) (a : Option Addr) (c : Nat), cs = [.int .u8 t.kind, .int .i64 t.num, .string t.name, .slice a t.len c] ∧ Rep w t a := by
  induction fuel with
  | zero => intro cs x h; simp [DataW.trod] at h
  | succ fuel ih =>
    intro cs x h
    obtain ⟨xs, n, hn, rfl, hl, hxl, hf⟩ := DataW.trod_struct Tryd.underlying35 h
    obtain rfl : fuel = n := by omega
    rw [cellsNode] at hl
    obtain ⟨c0, c1, c2, c3, rfl⟩ := list4 hl
    match xs, hxl with
    | [y0, y1, y2, y3], _ =>
      have h0 : DataW.trod enc Tryd.prog w base sp held fuel 5 (([c0, c1, c2, c3].drop 0).take (Tryd.prog.cellsOf 5)) = [y0, y1, y2, y3][0]? := hf 0 _ rfl
      have h1 : DataW.trod enc Tryd.prog w base sp held fuel 3 (([c0, c1, c2, c3].drop 1).take (Tryd.prog.cellsOf 3)) = [y0, y1, y2, y3][1]? := hf 1 _ rfl
      have h2 : DataW.trod enc Tryd.prog w base sp held fuel 9 (([c0, c1, c2, c3].drop 2).take (Tryd.prog.cellsOf 9)) = [y0, y1, y2, y3][2]? := hf 2 _ rfl
      have h3 : DataW.trod enc Tryd.prog w base sp held fuel 33 (([c0, c1, c2, c3].drop 3).take (Tryd.prog.cellsOf 33)) = [y0, y1, y2, y3][3]? := hf 3 _ rfl
      rw [cellsNode0] at h0
      rw [cellsNode1] at h1
      rw [cellsNode2] at h2
      rw [cellsNode3] at h3
      simp only [List.drop_zero, List.drop_succ_cons, List.take_succ_cons, List.take_zero, List.getElem?_cons_zero, List.getElem?_cons_succ] at h0 h1 h2 h3
      obtain ⟨k, hk, _, wk⟩ := DataW.trod_int Tryd.underlying5 h0
      obtain ⟨m, hm, _, wm⟩ := DataW.trod_int Tryd.underlying3 h1
      obtain ⟨s, hs, _, ws⟩ := DataW.trod_string Tryd.underlying9 h2
      cases hk; cases hm; cases hs
      have bk : 0 ≤ k ∧ k ≤ 255 := by simpa [Lit.wf, IntKind.min, IntKind.max, IntKind.signed, IntKind.bits] using wk
      have bm : -9223372036854775808 ≤ m ∧ m ≤ 9223372036854775807 := by simpa [Lit.wf, IntKind.min, IntKind.max, IntKind.signed, IntKind.bits] using wm
      have ws' : s.size ≤ 9223372036854775807 := le_max ws
      clear ws
      rcases DataW.trod_slice Tryd.underlying33 h3 with ⟨h4, _⟩ | ⟨a, len, cap, elems, rest, n', hn', h4, _, hb, hlc, hcm, hel, hel2, _, _⟩
      · cases h4
        exact ⟨Tree.leaf k m s, none, 0, rfl, Rep.mk ⟨bk, bm, ws', Nat.zero_le _⟩ (.inl rfl)⟩
      · cases h4
        have hcm' : cap ≤ 9223372036854775807 := le_max hcm
        clear hcm
        obtain rfl : fuel = n' + 1 := hn'
        have hspot : 0 < len → a.spot = none := by
          intro h0
          have hi2 := hel2 0 h0
          rw [Nat.zero_mul, cellsNode] at hi2
          obtain ⟨y, hy⟩ : ∃ y, elems[0]? = some y := ⟨_, List.getElem?_eq_getElem (by omega)⟩
          rw [hy] at hi2
          obtain ⟨cs', hc1, hc2⟩ := Option.bind_eq_some_iff.1 hi2
          obtain ⟨t, ai, ci, rfl, hr⟩ := ih _ _ (DataW.trod_succ _ _ _ _ hc2)
          obtain ⟨_, _, hcs⟩ := World.cells?_some hc1
          have e0 := hcs 0 (by omega)
          have h9 : (a.add 0).add 0 = a := by simp [Addr.add]
          rw [h9] at e0
          cases hq : a.spot with
          | none => rfl
          | some q =>
            unfold World.cell? at e0
            rw [hq] at e0
            split at e0 <;> simp at e0
        have each : ∀ i, ∃ (t : Tree), i < len → ∃ (ai : Option Addr) (ci : Nat), NodeAt w a.block (a.off + i * 4) t ai ci ∧ Rep w t ai := by
          intro i
          by_cases hi : i < len
          · have hi2 := hel2 i hi
            rw [cellsNode] at hi2
            obtain ⟨y, hy⟩ : ∃ y, elems[i]? = some y := ⟨_, List.getElem?_eq_getElem (by omega)⟩
            rw [hy] at hi2
            obtain ⟨cs', hc1, hc2⟩ := Option.bind_eq_some_iff.1 hi2
            obtain ⟨t, ai, ci, rfl, hr⟩ := ih _ _ (DataW.trod_succ _ _ _ _ hc2)
            obtain ⟨_, _, hcs⟩ := World.cells?_some hc1
            obtain ⟨ab, ao, asp⟩ := a
            obtain rfl : asp = none := hspot (by omega)
            have hadd : ∀ d, ((⟨ab, ao, none⟩ : Addr).add (i * 4)).add d = ⟨ab, ao + i * 4 + d, none⟩ := by
              intro d
              unfold Addr.add
              by_cases h1 : i * 4 = 0 <;> by_cases h2 : d = 0 <;> simp [h1, h2]
              all_goals omega
            have e0 := hcs 0 (by omega)
            have e1 := hcs 1 (by omega)
            have e2 := hcs 2 (by omega)
            have e3 := hcs 3 (by omega)
            rw [hadd] at e0 e1 e2 e3
            exact ⟨t, fun _ => ⟨ai, ci, ⟨e0, e1, e2, e3⟩, hr⟩⟩
          · exact ⟨Tree.leaf 0 0 s, fun h => absurd h hi⟩
        obtain ⟨f, hf⟩ := Classical.axiomOfChoice each
        refine ⟨Tree.make k m s len f, some a, cap, rfl, Rep.mk ⟨bk, bm, ws', by show len ≤ _; omega⟩ ?_⟩
        by_cases h0 : 0 < len
        · obtain ⟨ab, ao, asp⟩ := a
          obtain rfl : asp = none := hspot h0
          refine .inr ⟨ab, ao, rfl, fun i hi => ?_⟩
          obtain ⟨ai, ci, h1, h2⟩ := hf i hi
          exact ⟨ai, ci, by rw [Tree.make_kid (show i < len from hi)]; exact h1, by rw [Tree.make_kid (show i < len from hi)]; exact h2⟩
        · exact .inl (show len = 0 by omega)
end
end Go.Proofs.YtkpdngfkdmllkaaDoor
