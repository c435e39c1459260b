/-
  Mg51: several texts in one (LowTrans, LowAlone, TreeOpen).
-/
import Derived.Test.YtkpdngfkdmllkaaDoorMg50
import Derived.Test.YtkpdngfkdmllkaaDoorMg22
import Derived.Test.YtkpdngfkdmllkaaDoorIrEqual
import Derived.Test.YtkpdngfkdmllkaaDoorRows
import Derived.Test.YtkpdngfkdmllkaaDoorMg5
import Derived.Test.YtkpdngfkdmllkaaDoorMg0
import Derived.ProofKit
import Derived.OpenShut
import Derived.Lib.SmallJoins
import Derived.WideKeyArgs
/-
  Contract: translated (package ontimelaw18).
-/
namespace Go.Proofs.YtkpdngfkdmllkaaDoor
set_option linter.unusedVariables false
set_option linter.unusedSimpArgs false
open Go.RowKit Go.Maps
set_option maxRecDepth 100000
set_option maxHeartbeats 8000000

/-- what translated answers -/
def TransRet (p : Prg) (k : Int) (w : World) (e : Ending) (w' : World) : Prop := ∃ F b aa ac ba bc, e = .returned (.tuple #[fnVal F.name F.regs aa F.arrays.length ac ba F.blocks.length bc, .bool b]) ∧ FnNew w.heap.size w' F aa ba ∧ Below w.heap.size w w' ∧
  (b = true → okP p = true ∧ (0 ≤ k ∧ k < p.tasks.length) ∧ F = lowFn p.shared (p.tasks.getD k.toNat Tsk.none))
theorem TransRet.no {p : Prg} {k : Int} {w w' : World} (h : Below w.heap.size w w') : TransRet p k w (.returned (.tuple #[fnVal ⟨#[]⟩ 0 none 0 0 none 0 0, .bool false])) w' :=
  ⟨Fn.zero, false, none, 0, none, 0, rfl, Fn.zero_at _ _, h, fun h => nomatch h⟩
theorem translated_fn (p : Prg) (k : Int) (w : World) (sa ta : Option Addr) (sc tc : Nat) (hp : PrgAt w p sa ta) (hg : SignsIn w) (hk : isI64 k) :
    Calls Tryd.prog 9 #[p.val sa sc ta tc, .int .i64 k] w (TransRet p k w) := by
  have htl := hp.2.1
  have HKK := Lib.hid hk
  have hk1 := hk.1
  have hk2 := hk.2
  obtain ⟨A0, h0⟩ : ∃ A0 : World, w.alloc (prgObj p sa sc ta tc) = A0 := ⟨_, rfl⟩
  obtain ⟨A1, h1⟩ : ∃ A1 : World, A0.alloc (fnObj ⟨#[]⟩ 0 (.slice none 0 0) (.slice none 0 0)) = A1 := ⟨_, rfl⟩
  have HB0 : Hid (Below w.heap.size w A0) := by show Below _ _ _; rw [← h0]; exact mem_alloc _ _
  have HB1 : Hid (Below A0.heap.size A0 A1) := by show Below _ _ _; rw [← h1]; exact mem_alloc _ _
  have HX0 : Hid (A0.heap[w.heap.size]? = some (prgObj p sa sc ta tc)) := by show _ = _; rw [← h0]; exact mem_new _ _
  have HX1 : Hid (A1.heap[A0.heap.size]? = some (fnObj ⟨#[]⟩ 0 (.slice none 0 0) (.slice none 0 0))) := by show _ = _; rw [← h1]; exact mem_new _ _
  have HBW := Lib.hid (mem_then HB0.out HB1.out)
  have HZ : Hid (A0.heap.size = w.heap.size + 1) := by show _ = _; rw [← h0]; simp
  have HK : Hid (∀ w', Below A1.heap.size A1 w' → w'.heap[w.heap.size]? = some (prgObj p sa sc ta tc) ∧ w'.heap[A0.heap.size]? = some (fnObj ⟨#[]⟩ 0 (.slice none 0 0) (.slice none 0 0)) ∧ PrgAt w' p sa ta ∧ Below w.heap.size w w' ∧ SignsIn w') := fun w' h =>
    ⟨mem_keep (mem_keep HX0.out HB1.out) h, mem_keep HX1.out h, hp.below (mem_then HBW.out h), mem_then HBW.out h, hg.below (mem_then HBW.out h)⟩
  -- a way out with the zero function
  have HZF : Hid (∀ w', Below A1.heap.size A1 w' → Below w.heap.size w (put4 w' A0.heap.size (.string ⟨#[]⟩) (.int .i64 0) (.slice none 0 0) (.slice none 0 0)) ∧ (put4 w' A0.heap.size (.string ⟨#[]⟩) (.int .i64 0) (.slice none 0 0) (.slice none 0 0)).heap[A0.heap.size]? = some (fnObj ⟨#[]⟩ 0 (.slice none 0 0) (.slice none 0 0))) := fun w' h =>
    ⟨put4_below (HK.out w' h).2.2.2.1 (by have := HZ.out; omega), put4_at (HK.out w' h).2.1⟩
  have y0 : A1.cell? ⟨w.heap.size, 0, none⟩ = some (.slice sa p.shared.length sc) := mem_cell (HK.out A1 (Below.refl _ _)).1 0
  have y1 : A1.cell? ⟨w.heap.size, 1, none⟩ = some (.slice ta p.tasks.length tc) := mem_cell (HK.out A1 (Below.refl _ _)).1 1
  clear hp hg hk
  go_enter Tryd.func9, Tryd.ntmps9
  go_wp2_with fail
  clear y0 y1 h0 h1
  refine (smallProg_any p A1 sa ta sc tc (HK.out A1 (Below.refl _ _)).2.2.1).mono ?_
  rintro e w1 ⟨⟨b1, rfl⟩, hB1⟩
  have HB1' := Lib.hid hB1
  have y0 : w1.cell? ⟨w.heap.size, 0, none⟩ = some (.slice sa p.shared.length sc) := mem_cell (HK.out w1 hB1).1 0
  have y1 : w1.cell? ⟨w.heap.size, 1, none⟩ = some (.slice ta p.tasks.length tc) := mem_cell (HK.out w1 hB1).1 1
  clear hB1
  have HOUT : Hid (∀ w', Below A1.heap.size A1 w' → ∃ X : World, put4 w' A0.heap.size (.string ⟨#[]⟩) (.int .i64 0) (.slice none 0 0) (.slice none 0 0) = X ∧ (Below w.heap.size w X ∧ X.heap[A0.heap.size]? = some (fnObj ⟨#[]⟩ 0 (.slice none 0 0) (.slice none 0 0)))) := fun w' h => ⟨_, rfl, HZF.out w' h⟩
  cases b1 with
  | false =>
    obtain ⟨c0, c1, c2, c3, cf⟩ := fn_four (HK.out w1 HB1'.out).2.1
    obtain ⟨WE, hWE, hz⟩ := HOUT.out w1 HB1'.out
    have HZ1 := Lib.hid hz
    unfold put4 at hWE
    clear hz
    go_wp2_with fail
    clear c0 c1 c2 c3 cf hWE
    obtain ⟨r0, r1, r2, r3, _⟩ := fn_four HZ1.out.2
    exact bodyPost_ret (v := .tuple #[fnVal ⟨#[]⟩ 0 none 0 0 none 0 0, .bool false]) (by simp [results, Tryd.results9, go_sem, r0, r1, r2, r3]) rfl (TransRet.no HZ1.out.1)
  | true =>
  go_wp2_with fail
  clear y0 y1
  refine (ok15_any p w1 sa ta sc tc (HK.out w1 HB1'.out).2.2.1 (HK.out w1 HB1'.out).2.2.2.2).mono ?_
  rintro e w2 ⟨rfl, hB2⟩
  have HB2 := Lib.hid (mem_then HB1'.out hB2)
  have y0 : w2.cell? ⟨w.heap.size, 0, none⟩ = some (.slice sa p.shared.length sc) := mem_cell (HK.out w2 HB2.out).1 0
  have y1 : w2.cell? ⟨w.heap.size, 1, none⟩ = some (.slice ta p.tasks.length tc) := mem_cell (HK.out w2 HB2.out).1 1
  obtain ⟨ok, hok⟩ : ∃ b, okP p = b := ⟨_, rfl⟩
  have HOK := Lib.hid hok
  rw [hok]
  clear hB2 hok
  cases ok with
  | false =>
    obtain ⟨c0, c1, c2, c3, cf⟩ := fn_four (HK.out w2 HB2.out).2.1
    obtain ⟨WE, hWE, hz⟩ := HOUT.out w2 HB2.out
    have HZ1 := Lib.hid hz
    unfold put4 at hWE
    clear hz
    go_wp2_with fail
    clear c0 c1 c2 c3 cf hWE
    obtain ⟨r0, r1, r2, r3, _⟩ := fn_four HZ1.out.2
    exact bodyPost_ret (v := .tuple #[fnVal ⟨#[]⟩ 0 none 0 0 none 0 0, .bool false]) (by simp [results, Tryd.results9, go_sem, r0, r1, r2, r3]) rfl (TransRet.no HZ1.out.1)
  | true =>
  by_cases h0 : k < 0
  · have h0d : decide (k < 0) = true := by simpa using h0
    obtain ⟨c0, c1, c2, c3, cf⟩ := fn_four (HK.out w2 HB2.out).2.1
    obtain ⟨WE, hWE, hz⟩ := HOUT.out w2 HB2.out
    have HZ1 := Lib.hid hz
    unfold put4 at hWE
    clear hz
    go_wp2_with fail
    clear c0 c1 c2 c3 cf hWE
    obtain ⟨r0, r1, r2, r3, _⟩ := fn_four HZ1.out.2
    exact bodyPost_ret (v := .tuple #[fnVal ⟨#[]⟩ 0 none 0 0 none 0 0, .bool false]) (by simp [results, Tryd.results9, go_sem, r0, r1, r2, r3]) rfl (TransRet.no HZ1.out.1)
  have h0d : decide (k < 0) = false := by simpa using h0
  by_cases h1 : (p.tasks.length : Int) ≤ k
  · have h1d : decide ((p.tasks.length : Int) ≤ k) = true := by simpa using h1
    obtain ⟨c0, c1, c2, c3, cf⟩ := fn_four (HK.out w2 HB2.out).2.1
    obtain ⟨WE, hWE, hz⟩ := HOUT.out w2 HB2.out
    have HZ1 := Lib.hid hz
    unfold put4 at hWE
    clear hz
    go_wp2_with fail
    clear c0 c1 c2 c3 cf hWE
    obtain ⟨r0, r1, r2, r3, _⟩ := fn_four HZ1.out.2
    exact bodyPost_ret (v := .tuple #[fnVal ⟨#[]⟩ 0 none 0 0 none 0 0, .bool false]) (by simp [results, Tryd.results9, go_sem, r0, r1, r2, r3]) rfl (TransRet.no HZ1.out.1)
  have h1d : decide ((p.tasks.length : Int) ≤ k) = false := by simpa using h1
  have HKB : Hid (0 ≤ k ∧ k < p.tasks.length) := ⟨by omega, by omega⟩
  have HR : Hid (taskR p k = (lowFn p.shared (p.tasks.getD k.toNat Tsk.none), 0)) := by
    show _ = _; unfold taskR; rw [if_neg (by rw [HOK.out]; simp), if_neg (by omega)]
  clear h0 h1
  have hT := task_any p k w2 sa ta sc tc (HK.out w2 HB2.out).2.2.1 (HK.out w2 HB2.out).2.2.2.2 HKK.out
  rw [HR.out] at hT
  obtain ⟨F, hF⟩ : ∃ F, lowFn p.shared (p.tasks.getD k.toNat Tsk.none) = F := ⟨_, rfl⟩
  have HF := Lib.hid hF
  rw [hF] at hT
  have HT := Lib.hid hT
  clear hT hF
  go_wp2_with fail
  clear y0 y1
  refine HT.out.mono ?_
  rintro e w3 ⟨aa, ac, ba, bc, rfl, hfn, hB3⟩
  have HFN := Lib.hid hfn
  have HB3 := Lib.hid (mem_then HB2.out hB3)
  clear hfn hB3 HT
  obtain ⟨an, hn1⟩ : ∃ n, F.arrays.length = n := ⟨_, rfl⟩
  obtain ⟨bn, hn2⟩ : ∃ n, F.blocks.length = n := ⟨_, rfl⟩
  have HNN : Hid (F.arrays.length = an ∧ F.blocks.length = bn) := ⟨hn1, hn2⟩
  simp only [hn1, hn2]
  obtain ⟨V, hV⟩ : ∃ X : World, w3.alloc (fnObj F.name F.regs (.slice aa an ac) (.slice ba bn bc)) = X := ⟨_, rfl⟩
  have HV0 : Hid (Below w3.heap.size w3 V) := by show Below _ _ _; rw [← hV]; exact mem_alloc _ _
  have HVX : Hid (V.heap[w3.heap.size]? = some (fnObj F.name F.regs (.slice aa an ac) (.slice ba bn bc))) := by show _ = _; rw [← hV]; exact mem_new _ _
  have HV := Lib.hid (mem_then HB3.out HV0.out)
  obtain ⟨v0, v1, v2, v3, _⟩ := fn_four HVX.out
  obtain ⟨c0, c1, c2, c3, cf⟩ := fn_four (HK.out V HV.out).2.1
  obtain ⟨WE, hWE⟩ : ∃ X : World, put4 V A0.heap.size (.string F.name) (.int .i64 F.regs) (.slice aa an ac) (.slice ba bn bc) = X := ⟨_, rfl⟩
  have HEX : Hid (WE.heap[A0.heap.size]? = some (fnObj F.name F.regs (.slice aa an ac) (.slice ba bn bc))) := by show _ = _; rw [← hWE]; exact put4_at (HK.out V HV.out).2.1
  have HAE : Hid (FnNew w.heap.size WE F aa ba) := by
    refine (FnNew.move HFN.out (by rw [← hWE]; unfold put4; simp; exact HV0.out.size) (fun k h1 h2 => ?_)).mono (by have := HB2.out.size; have := HBW.out.size; omega)
    rw [← hWE]
    exact (put4_far (by have h3 := mem_lt (HK.out w2 HB2.out).2.1; omega)).trans (HV0.out.block k h2)
  have HBE : Hid (Below w.heap.size w WE) := by show Below _ _ _; rw [← hWE]; exact put4_below (HK.out V HV.out).2.2.2.1 (by have := HZ.out; omega)
  unfold put4 at hWE
  clear hn1 hn2
  go_wp2_with fail
  clear c0 c1 c2 c3 cf hWE hV v0 v1 v2 v3
  obtain ⟨r0, r1, r2, r3, _⟩ := fn_four HEX.out
  exact bodyPost_ret (v := .tuple #[fnVal F.name F.regs aa an ac ba bn bc, .bool true]) (by simp [results, Tryd.results9, go_sem, r0, r1, r2, r3]) rfl ⟨F, true, aa, ac, ba, bc, by rw [HNN.out.1, HNN.out.2], HAE.out, HBE.out, fun _ => ⟨HOK.out, HKB.out, HF.out.symm⟩⟩
end Go.Proofs.YtkpdngfkdmllkaaDoor

/-
  LowerAlone (package ontimelaw18): the function depends on its own task and the shared objects only.
-/
namespace Go.Proofs.YtkpdngfkdmllkaaDoor
set_option linter.unusedVariables false
set_option linter.unusedSimpArgs false
open Go.RowKit Go.Maps
set_option maxRecDepth 100000
set_option maxHeartbeats 8000000

theorem one_end {V X : World} {b nb : Nat} {p : Prg} {t : Tsk} {q : TskPlace} {sa : Option Addr} {sc : Nat} (hB : Below V.heap.size V X) (hb : X.heap[b]? = some (.cells #[.slice none 0 0, .slice none 0 0] 25)) (hn : X.heap[nb]? = some (tskObj t q)) (hV : V.heap.size ≤ b) (hin : TskIn V t q) :
    ((X.setCell ⟨b, 0, none⟩ (.slice sa p.shared.length sc)).setCell ⟨b, 1, none⟩ (.slice (some ⟨nb, 0, none⟩) 1 1)).drew.heap[b]? = some (prgObj (oneP p t) sa sc (some ⟨nb, 0, none⟩) 1) ∧
    TsksAt ((X.setCell ⟨b, 0, none⟩ (.slice sa p.shared.length sc)).setCell ⟨b, 1, none⟩ (.slice (some ⟨nb, 0, none⟩) 1 1)).drew (some ⟨nb, 0, none⟩) [t] ∧
    Below V.heap.size V ((X.setCell ⟨b, 0, none⟩ (.slice sa p.shared.length sc)).setCell ⟨b, 1, none⟩ (.slice (some ⟨nb, 0, none⟩) 1 1)).drew := by
  have hne : nb ≠ b := by
    rintro rfl
    rw [hn] at hb
    injection hb with hb
    injection hb with h1 h2
    exact absurd h2 (by decide)
  have h1 := mem_set (i := 1) (v := .slice (some ⟨nb, 0, none⟩) 1 1) (mem_set (i := 0) (v := .slice sa p.shared.length sc) hb)
  have h2 : Below V.heap.size V ((X.setCell ⟨b, 0, none⟩ (.slice sa p.shared.length sc)).setCell ⟨b, 1, none⟩ (.slice (some ⟨nb, 0, none⟩) 1 1)) := (hB.setCell (p := ⟨b, 0, none⟩) hV _).setCell (p := ⟨b, 1, none⟩) hV _
  have h3 : ((X.setCell ⟨b, 0, none⟩ (.slice sa p.shared.length sc)).setCell ⟨b, 1, none⟩ (.slice (some ⟨nb, 0, none⟩) 1 1)).heap[nb]? = some (tskObj t q) := by
    rw [Below.heap_setCell _ _ _ _ hne, Below.heap_setCell _ _ _ _ hne]; exact hn
  generalize ((X.setCell ⟨b, 0, none⟩ (.slice sa p.shared.length sc)).setCell ⟨b, 1, none⟩ (.slice (some ⟨nb, 0, none⟩) 1 1)) = Y at h1 h2 h3
  refine ⟨h1, ⟨by show 1 ≤ _; omega, fun i hi => ?_⟩, h2.drew⟩
  obtain rfl : i = 0 := by have hi : i < 1 := hi; omega
  refine ⟨nb, 0, q, rfl, fun o ho => ?_, hin.below h2.drew⟩
  rw [show 0 + 0 * 8 + o = o by omega]
  exact mem_cell (w := Y) h3 o
theorem lowerAlone_any (p : Prg) (k : Int) (w : World) (sa ta : Option Addr) (sc tc : Nat) (hp : PrgAt w p sa ta) (hg : SignsIn w) (hk : isI64 k) :
    Calls Tryd.prog 6 #[p.val sa sc ta tc, .int .i64 k] w fun e w' => e = .returned (.bool true) ∧ Below w.heap.size w w' := by
  have htl := hp.2.1
  have HKK := Lib.hid hk
  have hk1 := hk.1
  have hk2 := hk.2
  obtain ⟨A0, h0⟩ : ∃ A0 : World, w.alloc (prgObj p sa sc ta tc) = A0 := ⟨_, rfl⟩
  have HB0 : Hid (Below w.heap.size w A0) := by show Below _ _ _; rw [← h0]; exact mem_alloc _ _
  have HX0 : Hid (A0.heap[w.heap.size]? = some (prgObj p sa sc ta tc)) := by show _ = _; rw [← h0]; exact mem_new _ _
  have HK : Hid (∀ w', Below A0.heap.size A0 w' → w'.heap[w.heap.size]? = some (prgObj p sa sc ta tc) ∧ PrgAt w' p sa ta ∧ Below w.heap.size w w' ∧ SignsIn w') := fun w' h =>
    ⟨mem_keep HX0.out h, hp.below (mem_then HB0.out h), mem_then HB0.out h, hg.below (mem_then HB0.out h)⟩
  clear hp hg hk
  go_enter Tryd.func6, Tryd.ntmps6
  go_wp2_with fail
  clear h0
  refine (lawake_any A0 (HK.out A0 (Below.refl _ _)).2.2.2).mono ?_
  rintro e w1 ⟨rfl, hB1⟩
  have HB1 := Lib.hid hB1
  have y0 : w1.cell? ⟨w.heap.size, 0, none⟩ = some (.slice sa p.shared.length sc) := mem_cell (HK.out w1 hB1).1 0
  have y1 : w1.cell? ⟨w.heap.size, 1, none⟩ = some (.slice ta p.tasks.length tc) := mem_cell (HK.out w1 hB1).1 1
  clear hB1
  go_wp2_with fail
  clear y0 y1
  refine (translated_fn p k w1 sa ta sc tc (HK.out w1 HB1.out).2.1 (HK.out w1 HB1.out).2.2.2 HKK.out).mono ?_
  rintro e w2 ⟨F, b, aa, ac, ba, bc, rfl, hfn, hB2, hyes⟩
  have HB2 := Lib.hid (mem_then HB1.out hB2)
  obtain ⟨an, hn1⟩ : ∃ n, F.arrays.length = n := ⟨_, rfl⟩
  obtain ⟨bn, hn2⟩ : ∃ n, F.blocks.length = n := ⟨_, rfl⟩
  have HNN : Hid (F.arrays.length = an ∧ F.blocks.length = bn) := ⟨hn1, hn2⟩
  simp only [hn1, hn2]
  obtain ⟨V, hV⟩ : ∃ X : World, w2.alloc (fnObj F.name F.regs (.slice aa an ac) (.slice ba bn bc)) = X := ⟨_, rfl⟩
  have HV0 : Hid (Below w2.heap.size w2 V) := by show Below _ _ _; rw [← hV]; exact mem_alloc _ _
  have HVX : Hid (V.heap[w2.heap.size]? = some (fnObj F.name F.regs (.slice aa an ac) (.slice ba bn bc))) := by show _ = _; rw [← hV]; exact mem_new _ _
  have HFN := Lib.hid (hfn.at_.below HV0.out)
  have HV := Lib.hid (mem_then HB2.out HV0.out)
  clear hfn hB2 hn1 hn2
  cases b with
  | false =>
    clear hyes
    go_wp2_with fail
    go_ret
    exact ⟨rfl, (HK.out V HV.out).2.2.1⟩
  | true =>
  obtain ⟨hok, ⟨hk0, hkl⟩, hF⟩ := hyes rfl
  have HOK := Lib.hid hok
  have HF := Lib.hid hF
  obtain ⟨j, rfl⟩ : ∃ j : Nat, k = (j : Int) := ⟨k.toNat, by omega⟩
  have hj : j < p.tasks.length := by omega
  have HJ := Lib.hid hj
  obtain ⟨tb, to', q, rfl, htc, htin⟩ := (HK.out V HV.out).2.1.2.2 j hj
  obtain ⟨t, ht⟩ : ∃ t, p.tasks.getD j Tsk.none = t := ⟨_, rfl⟩
  have HT := Lib.hid ht
  rw [ht] at htc htin
  have HTI := Lib.hid htin
  obtain ⟨⟨g0, g1, g2, g3, g4, g5, g6, g7⟩, _⟩ := tsk_cells (Below.refl V.heap.size V) htc
  have y0 : V.cell? ⟨w.heap.size, 0, none⟩ = some (.slice sa p.shared.length sc) := mem_cell (HK.out V HV.out).1 0
  have y1 : V.cell? ⟨w.heap.size, 1, none⟩ = some (.slice (some ⟨tb, to', none⟩) p.tasks.length tc) := mem_cell (HK.out V HV.out).1 1
  obtain ⟨v0, v1, v2, v3, _⟩ := fn_four HVX.out
  clear hyes hok hF htc htin ht
  go_wp2_with fail
  go_cut [7] from 20 to 28 (fun u w' => ∃ b nb, u = .pointer (some ⟨b, 0, none⟩) ∧ w'.heap[b]? = some (prgObj (oneP p t) sa sc (some ⟨nb, 0, none⟩) 1) ∧ TsksAt w' (some ⟨nb, 0, none⟩) [t] ∧ Below V.heap.size V w')
  case first =>
    obtain ⟨U, hU⟩ : ∃ U : World, V.alloc (.cells #[.slice none 0 0, .slice none 0 0] 25) = U := ⟨_, rfl⟩
    obtain ⟨UR, hUR⟩ : ∃ X : World, U.alloc (.cells #[.string t.name, .int .i64 t.period, .slice q.va t.vars.length q.vc, .slice q.aa t.arrays.length q.ac, .int .u8 t.body.kind, .int .i64 t.body.num, .string t.body.name, .slice q.ka t.body.len q.kc] 37) = X := ⟨_, rfl⟩
    obtain ⟨VR, hVR⟩ : ∃ X : World, V.alloc (.cells #[.string t.name, .int .i64 t.period, .slice q.va t.vars.length q.vc, .slice q.aa t.arrays.length q.ac, .int .u8 t.body.kind, .int .i64 t.body.num, .string t.body.name, .slice q.ka t.body.len q.kc] 37) = X := ⟨_, rfl⟩
    obtain ⟨VB, hVB⟩ : ∃ X : World, VR.alloc (.cells #[.slice none 0 0, .slice none 0 0] 25) = X := ⟨_, rfl⟩
    have hBU : Below V.heap.size V U := by rw [← hU]; exact mem_alloc _ _
    have hBUR : Below U.heap.size U UR := by rw [← hUR]; exact mem_alloc _ _
    have hBVR : Below V.heap.size V VR := by rw [← hVR]; exact mem_alloc _ _
    have hBVB : Below VR.heap.size VR VB := by rw [← hVB]; exact mem_alloc _ _
    have hXU : U.heap[V.heap.size]? = some (.cells #[.slice none 0 0, .slice none 0 0] 25) := by rw [← hU]; exact mem_new _ _
    have hXUR : UR.heap[U.heap.size]? = some (tskObj t q) := by rw [← hUR]; exact mem_new _ _
    have hXVR : VR.heap[V.heap.size]? = some (tskObj t q) := by rw [← hVR]; exact mem_new _ _
    have hXVB : VB.heap[VR.heap.size]? = some (.cells #[.slice none 0 0, .slice none 0 0] 25) := by rw [← hVB]; exact mem_new _ _
    have z0 := cell_below hBU y0
    have z1 := cell_below hBU y1
    have d0 := cell_below hBU g0
    have d1 := cell_below hBU g1
    have d2 := cell_below hBU g2
    have d3 := cell_below hBU g3
    have d4 := cell_below hBU g4
    have d5 := cell_below hBU g5
    have d6 := cell_below hBU g6
    have d7 := cell_below hBU g7
    have m0 := cell_below hBUR z0
    have m1 := cell_below hBVR y0
    have m2 := cell_below hBVB m1
    have n0 : UR.cell? ⟨V.heap.size, 0, none⟩ = some (.slice none 0 0) := mem_cell (mem_keep hXU hBUR) 0
    have n1 : UR.cell? ⟨V.heap.size, 1, none⟩ = some (.slice none 0 0) := mem_cell (mem_keep hXU hBUR) 1
    have n2 : UR.frozen? ⟨V.heap.size, 0, none⟩ = false := mem_free (mem_keep hXU hBUR) 0
    have n3 : UR.frozen? ⟨V.heap.size, 1, none⟩ = false := mem_free (mem_keep hXU hBUR) 1
    have o0 : VB.cell? ⟨VR.heap.size, 0, none⟩ = some (.slice none 0 0) := mem_cell hXVB 0
    have o1 : VB.cell? ⟨VR.heap.size, 1, none⟩ = some (.slice none 0 0) := mem_cell hXVB 1
    have o2 : VB.frozen? ⟨VR.heap.size, 0, none⟩ = false := mem_free hXVB 0
    have o3 : VB.frozen? ⟨VR.heap.size, 1, none⟩ = false := mem_free hXVB 1
    have H1 := Lib.hid (And.intro (mem_then hBU hBUR) (And.intro (mem_keep hXU hBUR) hXUR))
    have H2 := Lib.hid (And.intro (mem_then hBVR hBVB) (And.intro hXVB (mem_keep hXVR hBVB)))
    have H2S : Hid (V.heap.size ≤ VR.heap.size) := hBVR.size
    clear hBU hBUR hBVR hBVB hXU hXUR hXVR hXVB
    go_region
    · go_wp2_with fail
      go_meet
      exact ⟨VR.heap.size, V.heap.size, rfl, one_end H2.out.1 H2.out.2.1 H2.out.2.2 (by have := H2.out.1.size; have := H2S.out; omega) HTI.out⟩
    · go_wp2_with fail
      go_meet
      exact ⟨V.heap.size, U.heap.size, rfl, one_end H1.out.1 H1.out.2.1 H1.out.2.2 (Nat.le_refl _) HTI.out⟩
  obtain ⟨b, nb, rfl, hbx, htk, hBc⟩ := hcut
  have HBX := Lib.hid hbx
  have HTK := Lib.hid htk
  have HBC0 := Lib.hid hBc
  have HBC := Lib.hid (mem_then HV.out hBc)
  have HFE : Hid (F = lowFn p.shared t) := by show _ = _; rw [HF.out, Int.toNat_natCast, HT.out]
  have HR : Hid (taskR (oneP p t) 0 = (F, 0)) := by
    have h1 := one_ok HOK.out HJ.out
    rw [HT.out] at h1
    show _ = _
    unfold taskR
    rw [if_neg (by rw [h1]; simp), if_neg (by show ¬ ((0 : Int) < 0 ∨ ((1 : Nat) : Int) ≤ 0); omega), HFE.out]
    rfl
  have q0 : wc.cell? ⟨b, 0, none⟩ = some (.slice sa p.shared.length sc) := mem_cell hbx 0
  have q1 : wc.cell? ⟨b, 1, none⟩ = some (.slice (some ⟨nb, 0, none⟩) 1 1) := mem_cell hbx 1
  have hq := task_any (oneP p t) 0 wc sa (some ⟨nb, 0, none⟩) sc 1 ⟨(HK.out wc HBC.out).2.1.1, htk⟩ (HK.out wc HBC.out).2.2.2 (by unfold isI64; decide)
  rw [HR.out] at hq
  have HQ := Lib.hid hq
  clear hbx htk hBc hq y0 y1 g0 g1 g2 g3 g4 g5 g6 g7 v0 v1 v2 v3
  go_wp2_with fail
  clear q0 q1
  refine HQ.out.mono ?_
  rintro e w4 ⟨ga, gc, ha, hc, rfl, hgn, hB4⟩
  simp only [HNN.out.1, HNN.out.2]
  obtain ⟨Y, hY⟩ : ∃ X : World, w4.alloc (fnObj F.name F.regs (.slice ga an gc) (.slice ha bn hc)) = X := ⟨_, rfl⟩
  have hY0 : Below w4.heap.size w4 Y := by rw [← hY]; exact mem_alloc _ _
  have hYX : Y.heap[w4.heap.size]? = some (fnObj F.name F.regs (.slice ga an gc) (.slice ha bn hc)) := by rw [← hY]; exact mem_new _ _
  have HB4 := Lib.hid (mem_then (mem_then HBC0.out hB4) hY0)
  have HGN := Lib.hid (hgn.at_.below hY0)
  have hfx := mem_keep HVX.out HB4.out
  obtain ⟨u0, u1, u2, u3, _⟩ := fn_four hYX
  obtain ⟨v0, v1, v2, v3, _⟩ := fn_four hfx
  have hq := eqFn_any F F Y aa ba ga ha ac bc gc hc (HFN.out.below HB4.out) HGN.out
  simp only [HNN.out.1, HNN.out.2] at hq
  have HE := Lib.hid hq
  clear hgn hB4 hY0 hYX hfx hq HQ
  go_wp2_with fail
  refine HE.out.mono ?_
  rintro e w5 ⟨⟨bb, rfl, hbb⟩, hB5⟩
  obtain rfl : bb = true := hbb.2 trivial
  have HB5 := Lib.hid (mem_then (mem_then HV.out HB4.out) hB5)
  clear hB5 hbb
  go_wp2_with fail
  go_ret
  exact ⟨rfl, (HK.out w5 HB5.out).2.2.1⟩
end Go.Proofs.YtkpdngfkdmllkaaDoor

/-
  A node that reads as data lies in memory as a tree.
-/
namespace Go.Proofs.YtkpdngfkdmllkaaDoor
set_option linter.unusedVariables false
set_option linter.unusedSimpArgs false
open Go.ChangeShapes Go.WideShapes Go.ChangeAt Go.RowKit

theorem cellsNode : Tryd.prog.cellsOf 35 = 4 := by kernel_rfl
theorem cellsNode0 : Tryd.prog.cellsOf 5 = 1 := by kernel_rfl
theorem cellsNode1 : Tryd.prog.cellsOf 3 = 1 := by kernel_rfl
theorem cellsNode2 : Tryd.prog.cellsOf 9 = 1 := by kernel_rfl
theorem cellsNode3 : Tryd.prog.cellsOf 33 = 1 := by kernel_rfl

theorem list4 {l : List Value} (h : l.length = 4) : ∃ a b c d, l = [a, b, c, d] := by
  match l, h with
  | [a, b, c, d], _ => exact ⟨a, b, c, d, rfl⟩

theorem le_max {n : Nat} (h : n ≤ maxLen) : n ≤ 9223372036854775807 := by unfold maxLen at h; omega

section
variable {H : Type} {enc : TypeId × Value → H} {w : World} {base : Nat} {sp : Nat → Bool} {held : Bool}
theorem tree_open (fuel : Nat) : ∀ (cs : List Value) (x : DataW H × List MemPlace), DataW.trod enc Tryd.prog w base sp held fuel 35 cs = some x →
    ∃ (t : Tree) (a : Option Addr) (c : Nat), cs = [.int .u8 t.kind, .int .i64 t.num, .string t.name, .slice a t.len c] ∧ Rep w t a := by
  induction fuel with
  | zero => intro cs x h; simp [DataW.trod] at h
  | succ fuel ih =>
    intro cs x h
    obtain ⟨xs, n, hn, rfl, hl, hxl, hf⟩ := DataW.trod_struct Tryd.underlying35 h
    obtain rfl : fuel = n := by omega
    rw [cellsNode] at hl
    obtain ⟨c0, c1, c2, c3, rfl⟩ := list4 hl
    match xs, hxl with
    | [y0, y1, y2, y3], _ =>
      have h0 : DataW.trod enc Tryd.prog w base sp held fuel 5 (([c0, c1, c2, c3].drop 0).take (Tryd.prog.cellsOf 5)) = [y0, y1, y2, y3][0]? := hf 0 _ rfl
      have h1 : DataW.trod enc Tryd.prog w base sp held fuel 3 (([c0, c1, c2, c3].drop 1).take (Tryd.prog.cellsOf 3)) = [y0, y1, y2, y3][1]? := hf 1 _ rfl
      have h2 : DataW.trod enc Tryd.prog w base sp held fuel 9 (([c0, c1, c2, c3].drop 2).take (Tryd.prog.cellsOf 9)) = [y0, y1, y2, y3][2]? := hf 2 _ rfl
      have h3 : DataW.trod enc Tryd.prog w base sp held fuel 33 (([c0, c1, c2, c3].drop 3).take (Tryd.prog.cellsOf 33)) = [y0, y1, y2, y3][3]? := hf 3 _ rfl
      rw [cellsNode0] at h0
      rw [cellsNode1] at h1
      rw [cellsNode2] at h2
      rw [cellsNode3] at h3
      simp only [List.drop_zero, List.drop_succ_cons, List.take_succ_cons, List.take_zero, List.getElem?_cons_zero, List.getElem?_cons_succ] at h0 h1 h2 h3
      obtain ⟨k, hk, _, wk⟩ := DataW.trod_int Tryd.underlying5 h0
      obtain ⟨m, hm, _, wm⟩ := DataW.trod_int Tryd.underlying3 h1
      obtain ⟨s, hs, _, ws⟩ := DataW.trod_string Tryd.underlying9 h2
      cases hk; cases hm; cases hs
      have bk : 0 ≤ k ∧ k ≤ 255 := by simpa [Lit.wf, IntKind.min, IntKind.max, IntKind.signed, IntKind.bits] using wk
      have bm : -9223372036854775808 ≤ m ∧ m ≤ 9223372036854775807 := by simpa [Lit.wf, IntKind.min, IntKind.max, IntKind.signed, IntKind.bits] using wm
      have ws' : s.size ≤ 9223372036854775807 := le_max ws
      clear ws
      rcases DataW.trod_slice Tryd.underlying33 h3 with ⟨h4, _⟩ | ⟨a, len, cap, elems, rest, n', hn', h4, _, hb, hlc, hcm, hel, hel2, _, _⟩
      · cases h4
        exact ⟨Tree.leaf k m s, none, 0, rfl, Rep.mk ⟨bk, bm, ws', Nat.zero_le _⟩ (.inl rfl)⟩
      · cases h4
        have hcm' : cap ≤ 9223372036854775807 := le_max hcm
        clear hcm
        obtain rfl : fuel = n' + 1 := hn'
        have hspot : 0 < len → a.spot = none := by
          intro h0
          have hi2 := hel2 0 h0
          rw [Nat.zero_mul, cellsNode] at hi2
          obtain ⟨y, hy⟩ : ∃ y, elems[0]? = some y := ⟨_, List.getElem?_eq_getElem (by omega)⟩
          rw [hy] at hi2
          obtain ⟨cs', hc1, hc2⟩ := Option.bind_eq_some_iff.1 hi2
          obtain ⟨t, ai, ci, rfl, hr⟩ := ih _ _ (DataW.trod_succ _ _ _ _ hc2)
          obtain ⟨_, _, hcs⟩ := World.cells?_some hc1
          have e0 := hcs 0 (by omega)
          have h9 : (a.add 0).add 0 = a := by simp [Addr.add]
          rw [h9] at e0
          cases hq : a.spot with
          | none => rfl
          | some q =>
            unfold World.cell? at e0
            rw [hq] at e0
            split at e0 <;> simp at e0
        have each : ∀ i, ∃ (t : Tree), i < len → ∃ (ai : Option Addr) (ci : Nat), NodeAt w a.block (a.off + i * 4) t ai ci ∧ Rep w t ai := by
          intro i
          by_cases hi : i < len
          · have hi2 := hel2 i hi
            rw [cellsNode] at hi2
            obtain ⟨y, hy⟩ : ∃ y, elems[i]? = some y := ⟨_, List.getElem?_eq_getElem (by omega)⟩
            rw [hy] at hi2
            obtain ⟨cs', hc1, hc2⟩ := Option.bind_eq_some_iff.1 hi2
            obtain ⟨t, ai, ci, rfl, hr⟩ := ih _ _ (DataW.trod_succ _ _ _ _ hc2)
            obtain ⟨_, _, hcs⟩ := World.cells?_some hc1
            obtain ⟨ab, ao, asp⟩ := a
            obtain rfl : asp = none := hspot (by omega)
            have hadd : ∀ d, ((⟨ab, ao, none⟩ : Addr).add (i * 4)).add d = ⟨ab, ao + i * 4 + d, none⟩ := by
              intro d
              unfold Addr.add
              by_cases h1 : i * 4 = 0 <;> by_cases h2 : d = 0 <;> simp [h1, h2]
              all_goals omega
            have e0 := hcs 0 (by omega)
            have e1 := hcs 1 (by omega)
            have e2 := hcs 2 (by omega)
            have e3 := hcs 3 (by omega)
            rw [hadd] at e0 e1 e2 e3
            exact ⟨t, fun _ => ⟨ai, ci, ⟨e0, e1, e2, e3⟩, hr⟩⟩
          · exact ⟨Tree.leaf 0 0 s, fun h => absurd h hi⟩
        obtain ⟨f, hf⟩ := Classical.axiomOfChoice each
        refine ⟨Tree.make k m s len f, some a, cap, rfl, Rep.mk ⟨bk, bm, ws', by show len ≤ _; omega⟩ ?_⟩
        by_cases h0 : 0 < len
        · obtain ⟨ab, ao, asp⟩ := a
          obtain rfl : asp = none := hspot h0
          refine .inr ⟨ab, ao, rfl, fun i hi => ?_⟩
          obtain ⟨ai, ci, h1, h2⟩ := hf i hi
          exact ⟨ai, ci, by rw [Tree.make_kid (show i < len from hi)]; exact h1, by rw [Tree.make_kid (show i < len from hi)]; exact h2⟩
        · exact .inl (show len = 0 by omega)
end
end Go.Proofs.YtkpdngfkdmllkaaDoor
