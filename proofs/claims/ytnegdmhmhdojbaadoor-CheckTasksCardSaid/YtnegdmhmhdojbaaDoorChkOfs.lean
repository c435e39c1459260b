/-
  ChkOfs: several texts in one (ChkOf, ChkFRow).
-/
import Derived.Test.YtnegdmhmhdojbaaDoorChkOnly
/-
  Contract: the filter of CheckTasks (package ontimelaw15): the faults of one task.
-/
namespace Go.Proofs.YtnegdmhmhdojbaaDoor
set_option linter.unusedVariables false
set_option linter.unusedSimpArgs false
open Go.RowKit
set_option maxRecDepth 100000
set_option maxHeartbeats 8000000

theorem of_any (B : Nat) (k : Int) (L : List FltP) (w : World) (v : Value) (hL : FltsAt B w v L) (hB : B ≤ w.heap.size) (hlen : L.length ≤ 1000000) :
    Calls Tryd.prog 19 #[v, .int .i64 k] w fun e w' => ∃ v', e = .returned v' ∧ FltsAt B w' v' (L.filter (fun f => decide (f.task = k))) ∧ Below w.heap.size w w' := by
  obtain ⟨ti, hti, hz0, hz1, hz2⟩ := info_parts FltP.info
  obtain ⟨va, vc, rfl⟩ := own_val hL.ro
  have HL := Lib.hid hL
  clear hL
  go_enter Tryd.func19, Tryd.ntmps19
  go_wp2_with fail
  go_loopw [5, 10] (fun u iv wr => ∃ (j : Nat) (M : List FltP), j ≤ L.length ∧ iv = .int .i64 (j : Int) ∧ M = (L.take j).filter (fun f => decide (f.task = k)) ∧ wr.ownsRow w.heap.size 38 4 u M.length (M.flatMap FltP.cells) ∧ Below w.heap.size w wr) (fun _ iv _ => L.length - (intOf iv).toNat)
  case atStart => exact ⟨0, [], Nat.zero_le _, rfl, rfl, World.ownsRow_nil _ _ _ _, Below.refl _ _⟩
  case round =>
    obtain ⟨j, M, hj, rfl, hM, hown, hBw⟩ := hrel
    obtain ⟨ua, uc, rfl⟩ := own_val hown
    have HM := Lib.hid hM
    have HOWN := Lib.hid hown
    have HBW := Lib.hid hBw
    have hj0 : (0 : Int) ≤ (j : Int) := by omega
    have HML : Hid (M.length ≤ j) := by
      show _ ≤ _
      rw [hM]
      refine Nat.le_trans (List.length_filter_le _ _) ?_
      rw [List.length_take]
      omega
    clear hM hown hBw
    by_cases hlt : j < L.length
    · have hlt2 : (j : Int) < (L.length : Int) := by omega
      obtain ⟨gb, rfl, _, _⟩ := own_at HL.out.ro (by omega)
      obtain ⟨r0, r1, r2, r3⟩ := (HL.out.keep HBW.out).four hlt
      have hpv := HL.out.ri L[j] (List.getElem_mem hlt)
      have HTK : Hid (L.take (j + 1) = L.take j ++ [L[j]]) := List.take_succ_eq_append_getElem hlt
      obtain ⟨f, hf⟩ : ∃ f, L[j] = f := ⟨_, rfl⟩
      rw [hf] at r0 r1 r2 r3 hpv HTK
      obtain ⟨ft, ⟨fp, fe, fn⟩, fv⟩ := f
      obtain ⟨fa, fc, rfl⟩ : ∃ fa fc, fv = .slice fa fp.length fc := own_val hpv
      have HF : Hid ((L.take (j + 1)).filter (fun f => decide (f.task = k)) = M ++ (if ft = k then [⟨ft, ⟨fp, fe, fn⟩, .slice fa fp.length fc⟩] else [])) := by
        show _ = _
        rw [HTK.out, List.filter_append, ← HM.out]
        by_cases e : ft = k <;> simp [e]
      obtain ⟨D, hD⟩ : ∃ D : World, wr.alloc (.cells #[.int .i64 ft, .slice fa fp.length fc, .int .i64 fe, .string fn] 38) = D := ⟨_, rfl⟩
      have hBD : Below wr.heap.size wr D := by rw [← hD]; exact mem_alloc _ _
      have hX : D.heap[wr.heap.size]? = some (.cells #[.int .i64 ft, .slice fa fp.length fc, .int .i64 fe, .string fn] 38) := by rw [← hD]; exact mem_new _ _
      have HBD : Hid (Below w.heap.size w D) := HBW.out.trans (hBD.mono HBW.out.size)
      have HOD := Lib.hid (own_below HOWN.out hBD)
      have x0 := mem_cell hX 0
      have x1 := mem_cell hX 1
      have x2 := mem_cell hX 2
      have x3 := mem_cell hX 3
      simp only [List.getElem?_toArray, List.getElem?_cons_zero, List.getElem?_cons_succ] at x0 x1 x2 x3
      clear hf hpv hX hBD HTK
      by_cases h1 : ft = k
      · have hne1 : (ft == k) = true := by simp [h1]
        have HF2 : Hid (M ++ [⟨ft, ⟨fp, fe, fn⟩, .slice fa fp.length fc⟩] = (L.take (j + 1)).filter (fun f => decide (f.task = k))) := by show _ = _; rw [HF.out, if_pos h1]
        clear h1
        obtain ⟨D2, hD2⟩ : ∃ D2 : World, D.alloc (.cells #[.int .i64 ft, .slice fa fp.length fc, .int .i64 fe, .string fn] 38) = D2 := ⟨_, rfl⟩
        have hBD2 : Below D.heap.size D D2 := by rw [← hD2]; exact mem_alloc _ _
        have HLIT : Hid (∀ (n : Nat) (u : Value), (FltP.mk ft ⟨fp, fe, fn⟩ (.slice fa fp.length fc)).cells[n]? = some u → D2.cell? ((⟨D.heap.size, 0, none⟩ : Addr).add n) = some u) := by
          show ∀ _ _, _
          rw [← hD2]
          exact one_newF D ⟨ft, ⟨fp, fe, fn⟩, .slice fa fp.length fc⟩
        have HBD2 : Hid (Below w.heap.size w D2) := HBD.out.trans (hBD2.mono HBD.out.size)
        have HOD2 := Lib.hid (own_below HOD.out hBD2)
        clear hBD2
        go_wp2_with (at_builtin; refine wpList_append_row _ rfl (.tmp 18) (.tmp 20) 28 rfl w.heap.size 38 ti _ 4 56 Tryd.underlying28 hti hz0 hz1 hz2 rfl (by decide) (.slice ua M.length uc) M.length (M.flatMap FltP.cells) rfl HOD2.out ⟨D.heap.size, 0, none⟩ 1 1 (FltP.mk ft ⟨fp, fe, fn⟩ (.slice fa fp.length fc)).cells rfl rfl HLIT.out (FltP.one _ rfl) (by decide) (by have := HML.out; unfold maxLen; omega) (by have := HML.out; omega) HBD2.out.size ?_)
        intro g cap w3 hown3 hg3 _
        have HB3 : Hid (Below w.heap.size w w3) := HBD2.out.grown hg3 HBD2.out.size (fun n hn => (own_lt HOD2.out hn).1)
        have HO3 : Hid (w3.ownsRow w.heap.size 38 4 (.slice (some ⟨g, 0, none⟩) (M.length + 1) cap) (M ++ [FltP.mk ft ⟨fp, fe, fn⟩ (.slice fa fp.length fc)]).length ((M ++ [FltP.mk ft ⟨fp, fe, fn⟩ (.slice fa fp.length fc)]).flatMap FltP.cells)) := by
          show World.ownsRow _ _ _ _ _ _ _
          rw [List.length_append, List.flatMap_append]
          simpa using hown3
        clear hown3 hg3 hD hD2 r0 r1 r2 r3 x0 x1 x2 x3
        go_wp2_with fail
        go_roundw
        case rel => exact ⟨j + 1, M ++ [⟨ft, ⟨fp, fe, fn⟩, .slice fa fp.length fc⟩], by omega, by go_num, HF2.out, HO3.out, HB3.out⟩
        case measure => simp [intOf]; omega
      · have hne1 : (ft == k) = false := by simpa using h1
        have HF2 : Hid (M = (L.take (j + 1)).filter (fun f => decide (f.task = k))) := by show _ = _; rw [HF.out, if_neg h1, List.append_nil]
        clear h1
        go_wp2_with fail
        clear r0 r1 r2 r3 x0 x1 x2 x3 hD
        go_roundw
        case rel => exact ⟨j + 1, M, by omega, by go_num, HF2.out, HOD.out, HBD.out⟩
        case measure => simp [intOf]; omega
    · obtain rfl : j = L.length := by omega
      have HME : Hid (M = L.filter (fun f => decide (f.task = k))) := by show _ = _; rw [HM.out, List.take_length]
      go_wp2_with fail
      go_ret
      refine ⟨_, rfl, ?_, HBW.out⟩
      rw [← HME.out]
      exact ⟨own_down HOWN.out hB, fun f hf => own_below (HL.out.ri f (by rw [HME.out] at hf; exact (List.mem_filter.1 hf).1)) HBW.out⟩
end Go.Proofs.YtnegdmhmhdojbaaDoor

/-
  Rows of faults, read wherever they lie (a slice of a slice too).
-/
namespace Go.Proofs.YtnegdmhmhdojbaaDoor
set_option linter.unusedVariables false
set_option linter.unusedSimpArgs false
open Go.RowKit

/-- a fault's four cells and its path -/
def FltAt (w : World) (b off : Nat) (f : FltP) : Prop :=
  w.cell? ⟨b, off, none⟩ = some (.int .i64 f.task) ∧ w.cell? ⟨b, off + 1, none⟩ = some f.pv ∧ w.cell? ⟨b, off + 2, none⟩ = some (.int .i64 f.flt.err) ∧ w.cell? ⟨b, off + 3, none⟩ = some (.string f.flt.name) ∧
    ∃ pa pc, f.pv = .slice pa f.flt.path.length pc ∧ IRow w pa f.flt.path
/-- a row of faults -/
def FRow (w : World) (a : Option Addr) (L : List FltP) : Prop := ∀ j (h : j < L.length), ∃ b off, a = some ⟨b, off, none⟩ ∧ FltAt w b (off + j * 4) L[j]
theorem FltAt.below {w w' : World} {b off : Nat} {f : FltP} (h : FltAt w b off f) (hB : Below w.heap.size w w') : FltAt w' b off f := by
  obtain ⟨h0, h1, h2, h3, pa, pc, h4, h5⟩ := h
  exact ⟨cell_below hB h0, cell_below hB h1, cell_below hB h2, cell_below hB h3, pa, pc, h4, h5.below hB⟩
theorem FRow.below {w w' : World} {a : Option Addr} {L : List FltP} (h : FRow w a L) (hB : Below w.heap.size w w') : FRow w' a L := fun j hj => by
  obtain ⟨b, off, ha, hf⟩ := h j hj
  exact ⟨b, off, ha, hf.below hB⟩
theorem FltsAt.frow {N c : Nat} {w : World} {a : Option Addr} {L : List FltP} (h : FltsAt N w (.slice a L.length c) L) : FRow w a L := fun j hj => by
  obtain ⟨g, rfl, _, _⟩ := own_at h.ro (by omega)
  obtain ⟨r0, r1, r2, r3⟩ := h.four hj
  obtain ⟨pa, pc, hv⟩ := own_val (h.ri L[j] (List.getElem_mem hj))
  have hp := h.ri L[j] (List.getElem_mem hj)
  rw [hv] at hp
  exact ⟨g, 0, rfl, by rw [Nat.zero_add]; exact r0, by rw [Nat.zero_add]; exact r1, by rw [Nat.zero_add]; exact r2, by rw [Nat.zero_add]; exact r3, pa, pc, hv, PathV.row hp⟩
/-- the row without its first fault -/
theorem FRow.tail {w : World} {b off : Nat} {f : FltP} {L : List FltP} (h : FRow w (some ⟨b, off, none⟩) (f :: L)) : FRow w (some ⟨b, off + 4, none⟩) L := fun j hj => by
  obtain ⟨b', off', ha, hf⟩ := h (j + 1) (by simpa using hj)
  cases ha
  refine ⟨b, off + 4, rfl, ?_⟩
  rw [show off + 4 + j * 4 = off + (j + 1) * 4 by omega]
  simpa using hf
end Go.Proofs.YtnegdmhmhdojbaaDoor
