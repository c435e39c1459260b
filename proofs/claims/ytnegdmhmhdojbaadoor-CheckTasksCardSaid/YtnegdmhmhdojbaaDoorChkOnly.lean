/-
  Contract: only (package ontimelaw15).
-/
import Derived.Test.YtnegdmhmhdojbaaDoorChkBlock
import Derived.Deep.RegionHeld3
namespace Go.Proofs.YtnegdmhmhdojbaaDoor
set_option linter.unusedVariables false
set_option linter.unusedSimpArgs false
open Go.RowKit
set_option maxRecDepth 100000
set_option maxHeartbeats 8000000

/-- a row of paths -/
def PathsAt (w : World) (a : Option Addr) (ps : List (List Int)) : Prop := ps.length ≤ 9223372036854775807 ∧ ∀ i, i < ps.length → ∃ b off pa pc, a = some ⟨b, off, none⟩ ∧ w.cell? ⟨b, off + i, none⟩ = some (.slice pa (ps.getD i []).length pc) ∧ IRow w pa (ps.getD i [])
theorem PathsAt.below {w w' : World} {a : Option Addr} {ps : List (List Int)} (h : PathsAt w a ps) (hB : Below w.heap.size w w') : PathsAt w' a ps :=
  ⟨h.1, fun i hi => by obtain ⟨b, off, pa, pc, ha, hc, hr⟩ := h.2 i hi; exact ⟨b, off, pa, pc, ha, (hB.cell (p := ⟨b, off + i, none⟩) (World.block_lt_of_cell? w _ hc)).trans hc, hr.below hB⟩⟩
/-- a fault's task, error and path -/
def tep (f : TFlt) : Int × Int × List Int := (f.task, f.flt.err, f.flt.path)
/-- whether the faults of a program are those -/
def onlyP (p : Prg) (k e : Int) (ps : List (List Int)) : Bool := decide ((checkE p).map tep = ps.map (fun q => (k, e, q)))
theorem FltsAt.four {N g m cap j : Nat} {w : World} {L : List FltP} (h : FltsAt N w (.slice (some ⟨g, 0, none⟩) m cap) L) (hj : j < L.length) :
    w.cell? ⟨g, j * 4, none⟩ = some (.int .i64 L[j].task) ∧ w.cell? ⟨g, j * 4 + 1, none⟩ = some L[j].pv ∧ w.cell? ⟨g, j * 4 + 2, none⟩ = some (.int .i64 L[j].flt.err) ∧ w.cell? ⟨g, j * 4 + 3, none⟩ = some (.string L[j].flt.name) := by
  have key : ∀ (l : List FltP) (j : Nat) (hj : j < l.length) (d : Nat), d < 4 → (l.flatMap FltP.cells)[j * 4 + d]? = (l[j]).cells[d]? := by
    intro l
    induction l with
    | nil => intro j hj; exact absurd hj (Nat.not_lt_zero _)
    | cons f l ih =>
      intro j hj d hd
      rw [List.flatMap_cons]
      cases j with
      | zero => rw [List.getElem?_append_left (by rw [FltP.len]; omega)]; simp
      | succ j =>
        rw [List.getElem?_append_right (by rw [FltP.len]; omega), FltP.len, show (j + 1) * 4 + d - 4 = j * 4 + d by omega, ih j (by simpa using hj) d hd]
        simp
  exact ⟨h.cell ((key L j hj 0 (by omega)).trans rfl), h.cell ((key L j hj 1 (by omega)).trans rfl), h.cell ((key L j hj 2 (by omega)).trans rfl), h.cell ((key L j hj 3 (by omega)).trans rfl)⟩
theorem tep_stop {l : List (Int × Int × List Int)} {m : List (Int × Int × List Int)} {j : Nat} {x y : Int × Int × List Int} (h1 : l[j]? = some x) (h2 : m[j]? = some y) (h : x ≠ y) : decide (l = m) = false :=
  decide_eq_false fun e => h (by rw [e, h2] at h1; injection h1 with h1; exact h1.symm)
theorem tep_next {l m : List (Int × Int × List Int)} {j : Nat} {x : Int × Int × List Int} (h : l.take j = m.take j) (h1 : l[j]? = some x) (h2 : m[j]? = some x) : l.take (j + 1) = m.take (j + 1) := by
  rw [List.take_add_one, List.take_add_one, h, h1, h2]
theorem only_any (p : Prg) (k e : Int) (ps : List (List Int)) (w : World) (sa ta a : Option Addr) (sc tc c : Nat) (hp : PrgAt w p sa ta) (hg : SignsIn w) (hps : PathsAt w a ps) :
    Calls Tryd.prog 21 #[p.val sa sc ta tc, .int .i64 k, .int .i64 e, .slice a ps.length c] w fun en w' => en = .returned (.bool (onlyP p k e ps)) ∧ Below w.heap.size w w' := by
  obtain ⟨W, hW⟩ : ∃ W : World, w.alloc (prgObj p sa sc ta tc) = W := ⟨_, rfl⟩
  have HBW : Hid (Below w.heap.size w W) := by show Below _ _ _; rw [← hW]; exact mem_alloc _ _
  have HBX : Hid (W.heap[w.heap.size]? = some (prgObj p sa sc ta tc)) := by show _ = _; rw [← hW]; exact mem_new _ _
  have y0 : W.cell? ⟨w.heap.size, 0, none⟩ = some (.slice sa p.shared.length sc) := mem_cell HBX.out 0
  have y1 : W.cell? ⟨w.heap.size, 1, none⟩ = some (.slice ta p.tasks.length tc) := mem_cell HBX.out 1
  have HP := Lib.hid (hp.below HBW.out)
  have HG := Lib.hid (hg.below HBW.out)
  have HPS := Lib.hid hps
  have hpl := hps.1
  clear hp hg hps
  go_enter Tryd.func21, Tryd.ntmps21
  go_wp2_with fail
  clear hW y0 y1
  refine (check_any p W sa ta sc tc HP.out HG.out).mono ?_
  rintro en w1 ⟨v, L, rfl, hL, hF, hlen, hB1⟩
  obtain ⟨va, vc, rfl⟩ := own_val hL.ro
  have HB1 : Hid (Below w.heap.size w w1) := HBW.out.trans (hB1.mono HBW.out.size)
  have HL := Lib.hid hL
  have HF := Lib.hid hF
  have HLEN := Lib.hid hlen
  clear hL hF hlen hB1 HP HG HBW HBX
  by_cases hl : L.length = ps.length
  · have hl0 : ((L.length : Int) != (ps.length : Int)) = false := by simp [hl]
    have HLL := Lib.hid hl
    clear hl
    go_wp2_with fail
    clear hl0
    go_loopw [10, 21] (fun _ iv wr => ∃ j : Nat, j ≤ L.length ∧ iv = .int .i64 (j : Int) ∧ ((checkE p).map tep).take j = (ps.map (fun q => (k, e, q))).take j ∧ Below w1.heap.size w1 wr) (fun _ iv _ => L.length - (intOf iv).toNat)
    case atStart => exact ⟨0, Nat.zero_le _, rfl, rfl, Below.refl _ _⟩
    case round =>
      obtain ⟨j, hj, rfl, htk, hB⟩ := hrel
      have HTK := Lib.hid htk
      have HB := Lib.hid hB
      have hj0 : (0 : Int) ≤ (j : Int) := by omega
      have hll := HLEN.out
      clear htk hB
      by_cases hlt : j < L.length
      · have hlt2 : (j : Int) < (L.length : Int) := by omega
        have hlt3 : (j : Int) < (ps.length : Int) := by have := HLL.out; omega
        obtain ⟨gb, rfl, _, _⟩ := own_at HL.out.ro (by omega)
        obtain ⟨r0, r1, r2, r3⟩ := (HL.out.keep HB.out).four hlt
        have HPA := Lib.hid ((HL.out.keep HB.out).ri L[j] (List.getElem_mem hlt))
        have HX : Hid (((checkE p).map tep)[j]? = some (L[j].task, L[j].flt.err, L[j].flt.path)) := by
          show _ = _
          rw [← HF.out]
          unfold flat
          rw [List.map_map, List.getElem?_map, List.getElem?_eq_getElem hlt]
          rfl
        obtain ⟨f, hf⟩ : ∃ f, L[j] = f := ⟨_, rfl⟩
        rw [hf] at r0 r1 r2 r3 HPA HX
        obtain ⟨q, hq⟩ : ∃ q, ps.getD j [] = q := ⟨_, rfl⟩
        obtain ⟨qb, qo, qa, qc, rfl, hc, hr⟩ := (HPS.out.below (HB1.out.trans (HB.out.mono HB1.out.size))).2 j (by have := HLL.out; omega)
        rw [hq] at hc hr
        have HY : Hid ((ps.map (fun q => (k, e, q)))[j]? = some (k, e, q)) := by
          show _ = _
          rw [List.getElem?_map, getD_of (d := []) (by have := HLL.out; omega), hq]
          rfl
        obtain ⟨ft, ⟨fp, fe, fn⟩, fv⟩ := f
        obtain ⟨fa, fc, rfl⟩ : ∃ fa fc, fv = .slice fa fp.length fc := own_val HPA.out
        have HFR : Hid (IRow wr fa fp) := PathV.row HPA.out
        have HQR := Lib.hid hr
        have hpz : fp.length ≤ 9223372036854775807 := HFR.out.1
        have hqz : q.length ≤ 9223372036854775807 := hr.1
        have HSTOP : Hid (ft ≠ k ∨ fe ≠ e ∨ fp ≠ q → onlyP p k e ps = false) := fun h => tep_stop HX.out HY.out (fun hh => by
          simp only [Prod.mk.injEq] at hh
          rcases h with h | h | h
          · exact h hh.1
          · exact h hh.2.1
          · exact h hh.2.2)
        have HNEXT : Hid (ft = k → fe = e → fp = q → ((checkE p).map tep).take (j + 1) = (ps.map (fun q => (k, e, q))).take (j + 1)) := fun h1 h2 h3 => tep_next HTK.out (by rw [HX.out, h1, h2, h3]) HY.out
        obtain ⟨D, hD⟩ : ∃ D : World, wr.alloc (.cells #[.int .i64 ft, .slice fa fp.length fc, .int .i64 fe, .string fn] 38) = D := ⟨_, rfl⟩
        have hBD : Below wr.heap.size wr D := by rw [← hD]; exact mem_alloc _ _
        have hX : D.heap[wr.heap.size]? = some (.cells #[.int .i64 ft, .slice fa fp.length fc, .int .i64 fe, .string fn] 38) := by rw [← hD]; exact mem_new _ _
        have HBD : Hid (Below w1.heap.size w1 D) := HB.out.trans (hBD.mono HB.out.size)
        have x0 := mem_cell hX 0
        have x1 := mem_cell hX 1
        have x2 := mem_cell hX 2
        simp only [List.getElem?_toArray, List.getElem?_cons_zero, List.getElem?_cons_succ] at x0 x1 x2
        have hcD : D.cell? ⟨qb, qo + j, none⟩ = some (.slice qa q.length qc) := cell_below hBD hc
        have HFRD := Lib.hid (HFR.out.below hBD)
        have HQRD := Lib.hid (HQR.out.below hBD)
        clear hf hq hc hr hX hBD HPA HX HY HFR HQR
        go_wp2_with fail
        have HS : Hid (∀ w', Below D.heap.size D w' → w'.cell? ⟨wr.heap.size, 0, none⟩ = some (.int .i64 ft) ∧ w'.cell? ⟨wr.heap.size, 1, none⟩ = some (.slice fa fp.length fc) ∧ w'.cell? ⟨wr.heap.size, 2, none⟩ = some (.int .i64 fe) ∧ w'.cell? ⟨qb, qo + j, none⟩ = some (.slice qa q.length qc) ∧ Below D.heap.size D w') := fun w' h => ⟨cell_below h x0, cell_below h x1, cell_below h x2, cell_below h hcD, h⟩
        have hBD0 : Below D.heap.size D D := Below.refl _ _
        clear hD r0 r1 r2 r3
        by_cases h1 : ft = k
        · have hne1 : (ft != k) = false := by simp [h1]
          by_cases h2 : fe = e
          · have hne2 : (fe != e) = false := by simp [h2]
            have HN2 := Lib.hid (HNEXT.out h1 h2)
            have HS3 := Lib.hid (fun h => HSTOP.out (.inr (.inr h)))
            clear h1 h2
            go_region_held3 (fun w' => w'.cell? ⟨wr.heap.size, 0, none⟩ = some (.int .i64 ft) ∧ w'.cell? ⟨wr.heap.size, 1, none⟩ = some (.slice fa fp.length fc) ∧ w'.cell? ⟨wr.heap.size, 2, none⟩ = some (.int .i64 fe) ∧ w'.cell? ⟨qb, qo + j, none⟩ = some (.slice qa q.length qc) ∧ Below D.heap.size D w')
              (first | (go_split_ands; exact HS.out _ (mem_then (by assumption) (by assumption))) | (go_split_ands; exact HS.out _ (Below.drew (by assumption))) | (go_split_ands; exact HS.out _ (by assumption)))
              (first | (go_at_call 18; go_split_ands; refine (ieq_any fp q _ fa qa fc qc (HFRD.out.below (by assumption)) (HQRD.out.below (by assumption))).mono ?_; rintro en w9 ⟨rfl, hB9⟩))
            all_goals
              go_split_ands
              rename Below D.heap.size D _ => hBQ
              have HBQ : Hid (Below w1.heap.size w1 _) := HBD.out.trans (hBQ.mono HBD.out.size)
              clear hBQ
              by_cases h3 : fp = q
              · have hd3 : decide (fp = q) = true := decide_eq_true h3
                have HN3 := Lib.hid (HN2.out h3)
                clear h3
                rw [hd3]
                simp only [Bool.not_true, Bool.not_false]
                go_wp2_with fail
                go_roundw
                case rel => exact ⟨j + 1, by omega, by go_num, HN3.out, HBQ.out⟩
                case measure => simp [intOf]; omega
              · have hd3 : decide (fp = q) = false := decide_eq_false h3
                have HE := Lib.hid (HS3.out h3)
                clear h3
                rw [hd3]
                simp only [Bool.not_true, Bool.not_false]
                go_wp2_with fail
                go_ret
                exact ⟨by rw [HE.out]; rfl, HB1.out.trans (HBQ.out.mono HB1.out.size)⟩
          · have hne2 : (fe != e) = true := by simpa using h2
            have HE := Lib.hid (HSTOP.out (.inr (.inl h2)))
            clear h1 h2
            go_region
            go_wp2_with fail
            go_ret
            exact ⟨by rw [HE.out]; rfl, HB1.out.trans (HBD.out.drew.mono HB1.out.size)⟩
        · have hne1 : (ft != k) = true := by simpa using h1
          have HE := Lib.hid (HSTOP.out (.inl h1))
          clear h1
          go_region
          go_wp2_with fail
          go_ret
          exact ⟨by rw [HE.out]; rfl, HB1.out.trans (HBD.out.drew.mono HB1.out.size)⟩
      · obtain rfl : j = L.length := by omega
        have HE : Hid (onlyP p k e ps = true) := decide_eq_true (by
          have h := HTK.out
          have h1 : ((checkE p).map tep).length = L.length := by rw [← HF.out]; unfold flat; simp
          have h2 : (ps.map (fun q => (k, e, q))).length = L.length := by rw [List.length_map]; exact HLL.out.symm
          rw [List.take_of_length_le (by omega), List.take_of_length_le (by omega)] at h
          exact h)
        go_wp2_with fail
        go_ret
        exact ⟨by rw [HE.out]; rfl, HB1.out.trans (HB.out.mono HB1.out.size)⟩
  · have hl0 : ((L.length : Int) != (ps.length : Int)) = true := by simp; omega
    have HE : Hid (onlyP p k e ps = false) := decide_eq_false (fun h => hl (by
      have h := congrArg List.length h
      rw [← HF.out] at h
      unfold flat at h
      simpa using h))
    clear hl
    go_wp2_with fail
    go_ret
    exact ⟨by rw [HE.out]; rfl, HB1.out⟩
end Go.Proofs.YtnegdmhmhdojbaaDoor
