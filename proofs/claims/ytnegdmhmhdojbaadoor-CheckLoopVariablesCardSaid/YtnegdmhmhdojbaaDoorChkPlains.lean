/-
  ChkPlains: several texts in one (ChkBlock, ChkOnly, ChkSwap, ChkPlain).
-/
import Derived.Test.YtnegdmhmhdojbaaDoorChkRows
import Derived.Test.YtnegdmhmhdojbaaDoorMemSet
import Derived.Deep.RegionHeld3
/-
  Contract: block (package ontimelaw15).
-/
namespace Go.Proofs.YtnegdmhmhdojbaaDoor
set_option linter.unusedVariables false
set_option linter.unusedSimpArgs false
open Go.RowKit
set_option maxRecDepth 100000
set_option maxHeartbeats 4000000

theorem block_any (w : World) (a : Option Addr) (n c : Nat) :
    Calls Tryd.prog 33 #[.slice a n c] w fun e w' => e = .returned (.agg #[.int .u8 47, .int .i64 0, .string ⟨#[]⟩, .slice a n c]) ∧ Below w.heap.size w w' := by
  obtain ⟨W, hW⟩ : ∃ W : World, w.alloc (.cells #[.int .u8 0, .int .i64 0, .string ⟨#[]⟩, .slice none 0 0] 43) = W := ⟨_, rfl⟩
  have HBW : Hid (Below w.heap.size w W) := by show Below _ _ _; rw [← hW]; exact mem_alloc _ _
  have hX : W.heap[w.heap.size]? = some (.cells #[.int .u8 0, .int .i64 0, .string ⟨#[]⟩, .slice none 0 0] 43) := by rw [← hW]; exact mem_new _ _
  have z0 := mem_cell hX 0
  have z1 := mem_cell hX 1
  have z2 := mem_cell hX 2
  have z3 := mem_cell hX 3
  have q0 := mem_free hX 0
  have q1 := mem_free hX 1
  have q2 := mem_free hX 2
  have q3 := mem_free hX 3
  simp only [List.getElem?_toArray, List.getElem?_cons_zero, List.getElem?_cons_succ] at z0 z1 z2 z3
  clear hX
  go_enter Tryd.func33, Tryd.ntmps33
  go_wp2_with fail
  refine bodyPost_ret (v := .agg #[.int .u8 47, .int .i64 0, .string ⟨#[]⟩, .slice a n c]) (by simp [results, Tryd.results33, go_sem, z0, z1, z2, z3]) rfl ?_
  exact ⟨rfl, (((HBW.out.setCell (p := ⟨w.heap.size, 0, none⟩) (Nat.le_refl _) _).setCell (p := ⟨w.heap.size, 1, none⟩) (Nat.le_refl _) _).setCell (p := ⟨w.heap.size, 2, none⟩) (Nat.le_refl _) _).setCell (p := ⟨w.heap.size, 3, none⟩) (Nat.le_refl _) _⟩
/-- a path's row, read -/
theorem PathV.row {N : Nat} {w : World} {a : Option Addr} {c : Nat} {p : List Int} (h : PathV N w (.slice a p.length c) p) : IRow w a p := by
  refine ⟨own_size h, fun i hi => ?_⟩
  obtain ⟨b, rfl, _, _⟩ := own_at h (by omega)
  refine ⟨b, 0, rfl, ?_⟩
  rw [Nat.zero_add]
  refine own_get h ?_
  unfold ints
  simp [hi]
/-- a new row of ints, read -/
theorem irow_new {w : World} {b : Nat} {p : List Int} {T : TypeId} (h : w.heap[b]? = some (.cells (ints p).toArray T)) (hp : p.length ≤ 1000000) : IRow w (some ⟨b, 0, none⟩) p := by
  refine ⟨by omega, fun i hi => ⟨b, 0, rfl, ?_⟩⟩
  rw [mem_cell h]
  unfold ints
  simp [hi]
/-- what the rows of faults hold, cell for cell -/
theorem FltsAt.cell {N g m cap j : Nat} {w : World} {L : List FltP} {u : Value} (h : FltsAt N w (.slice (some ⟨g, 0, none⟩) m cap) L) (hu : (L.flatMap FltP.cells)[j]? = some u) : w.cell? ⟨g, j, none⟩ = some u := own_get h.ro hu
/-- a tree whose children's row is a block of one or two nodes -/
def one1 (k : Int) (s : ByteArray) (x : Tree) : Tree := Tree.make k 0 s 1 (fun _ => x)
def two1 (k : Int) (x y : Tree) : Tree := Tree.make k 0 ⟨#[]⟩ 2 (fun i => if i = 0 then x else y)
theorem leaf_rep {w : World} {k n : Int} {s : ByteArray} {a : Option Addr} (hk : 0 ≤ k ∧ k ≤ 255) (hn : 0 ≤ n ∧ n ≤ 1) (hs : s.size ≤ 5) : Rep w (Tree.leaf k n s) a :=
  Rep.mk ⟨hk, ⟨by show _ ≤ n; omega, by show n ≤ _; omega⟩, by show s.size ≤ _; omega, Nat.zero_le _⟩ (.inl rfl)
theorem one1_rep {w : World} {b k : Nat} {s : ByteArray} {x : Tree} {a : Option Addr} {c : Nat} {T : TypeId}
    (hb : w.heap[b]? = some (.cells #[.int .u8 x.kind, .int .i64 x.num, .string x.name, .slice a x.len c] T)) (hk : k ≤ 255) (hs : s.size ≤ 5) (hx : Rep w x a) : Rep w (one1 k s x) (some ⟨b, 0, none⟩) := by
  have hc := mem_cell hb
  refine Rep.mk ⟨⟨Int.natCast_nonneg k, by show (k : Int) ≤ 255; omega⟩, ⟨by show (-9223372036854775808 : Int) ≤ 0; omega, by show (0 : Int) ≤ 9223372036854775807; omega⟩, by show s.size ≤ _; omega, by show 1 ≤ _; omega⟩ (.inr ⟨b, 0, rfl, fun i hi => ?_⟩)
  have hi' : i < 1 := hi
  rw [show (one1 k s x).kid i = x from Tree.make_kid hi']
  obtain rfl : i = 0 := by omega
  exact ⟨a, c, ⟨hc 0, hc 1, hc 2, hc 3⟩, hx⟩
theorem two1_rep {w : World} {b k : Nat} {t0 t1 : Tree} {a0 a1 : Option Addr} {c0 c1 : Nat} {T : TypeId}
    (hb : w.heap[b]? = some (.cells #[.int .u8 t0.kind, .int .i64 t0.num, .string t0.name, .slice a0 t0.len c0, .int .u8 t1.kind, .int .i64 t1.num, .string t1.name, .slice a1 t1.len c1] T))
    (hk : k ≤ 255) (h0 : Rep w t0 a0) (h1 : Rep w t1 a1) : Rep w (two1 k t0 t1) (some ⟨b, 0, none⟩) := by
  have hc := mem_cell hb
  refine Rep.mk ⟨⟨Int.natCast_nonneg k, by show (k : Int) ≤ 255; omega⟩, ⟨by show (-9223372036854775808 : Int) ≤ 0; omega, by show (0 : Int) ≤ 9223372036854775807; omega⟩, by show (0 : Nat) ≤ _; omega, by show 2 ≤ _; omega⟩ (.inr ⟨b, 0, rfl, fun i hi => ?_⟩)
  have hi' : i < 2 := hi
  rw [show (two1 k t0 t1).kid i = if i = 0 then t0 else t1 from Tree.make_kid hi']
  match i, hi' with
  | 0, _ => exact ⟨a0, c0, ⟨hc 0, hc 1, hc 2, hc 3⟩, h0⟩
  | 1, _ => exact ⟨a1, c1, ⟨hc 4, hc 5, hc 6, hc 7⟩, h1⟩
end Go.Proofs.YtnegdmhmhdojbaaDoor

/-
  Contract: only (package ontimelaw15).
-/
namespace Go.Proofs.YtnegdmhmhdojbaaDoor
set_option linter.unusedVariables false
set_option linter.unusedSimpArgs false
open Go.RowKit
set_option maxRecDepth 100000
set_option maxHeartbeats 8000000

/-- a row of paths -/
def PathsAt (w : World) (a : Option Addr) (ps : List (List Int)) : Prop := ps.length ≤ 9223372036854775807 ∧ ∀ i, i < ps.length → ∃ b off pa pc, a = some ⟨b, off, none⟩ ∧ w.cell? ⟨b, off + i, none⟩ = some (.slice pa (ps.getD i []).length pc) ∧ IRow w pa (ps.getD i [])
theorem PathsAt.below {w w' : World} {a : Option Addr} {ps : List (List Int)} (h : PathsAt w a ps) (hB : Below w.heap.size w w') : PathsAt w' a ps :=
  ⟨h.1, fun i hi => by obtain ⟨b, off, pa, pc, ha, hc, hr⟩ := h.2 i hi; exact ⟨b, off, pa, pc, ha, (hB.cell (p := ⟨b, off + i, none⟩) (World.block_lt_of_cell? w _ hc)).trans hc, hr.below hB⟩⟩
/-- a fault's task, error and path -/
def tep (f : TFlt) : Int × Int × List Int := (f.task, f.flt.err, f.flt.path)
/-- whether the faults of a program are those -/
def onlyP (p : Prg) (k e : Int) (ps : List (List Int)) : Bool := decide ((checkE p).map tep = ps.map (fun q => (k, e, q)))
theorem FltsAt.four {N g m cap j : Nat} {w : World} {L : List FltP} (h : FltsAt N w (.slice (some ⟨g, 0, none⟩) m cap) L) (hj : j < L.length) :
    w.cell? ⟨g, j * 4, none⟩ = some (.int .i64 L[j].task) ∧ w.cell? ⟨g, j * 4 + 1, none⟩ = some L[j].pv ∧ w.cell? ⟨g, j * 4 + 2, none⟩ = some (.int .i64 L[j].flt.err) ∧ w.cell? ⟨g, j * 4 + 3, none⟩ = some (.string L[j].flt.name) := by
  have key : ∀ (l : List FltP) (j : Nat) (hj : j < l.length) (d : Nat), d < 4 → (l.flatMap FltP.cells)[j * 4 + d]? = (l[j]).cells[d]? := by
    intro l
    induction l with
    | nil => intro j hj; exact absurd hj (Nat.not_lt_zero _)
    | cons f l ih =>
      intro j hj d hd
      rw [List.flatMap_cons]
      cases j with
      | zero => rw [List.getElem?_append_left (by rw [FltP.len]; omega)]; simp
      | succ j =>
        rw [List.getElem?_append_right (by rw [FltP.len]; omega), FltP.len, show (j + 1) * 4 + d - 4 = j * 4 + d by omega, ih j (by simpa using hj) d hd]
        simp
  exact ⟨h.cell ((key L j hj 0 (by omega)).trans rfl), h.cell ((key L j hj 1 (by omega)).trans rfl), h.cell ((key L j hj 2 (by omega)).trans rfl), h.cell ((key L j hj 3 (by omega)).trans rfl)⟩
theorem tep_stop {l : List (Int × Int × List Int)} {m : List (Int × Int × List Int)} {j : Nat} {x y : Int × Int × List Int} (h1 : l[j]? = some x) (h2 : m[j]? = some y) (h : x ≠ y) : decide (l = m) = false :=
  decide_eq_false fun e => h (by rw [e, h2] at h1; injection h1 with h1; exact h1.symm)
theorem tep_next {l m : List (Int × Int × List Int)} {j : Nat} {x : Int × Int × List Int} (h : l.take j = m.take j) (h1 : l[j]? = some x) (h2 : m[j]? = some x) : l.take (j + 1) = m.take (j + 1) := by
  rw [List.take_add_one, List.take_add_one, h, h1, h2]
theorem only_any (p : Prg) (k e : Int) (ps : List (List Int)) (w : World) (sa ta a : Option Addr) (sc tc c : Nat) (hp : PrgAt w p sa ta) (hg : SignsIn w) (hps : PathsAt w a ps) :
    Calls Tryd.prog 21 #[p.val sa sc ta tc, .int .i64 k, .int .i64 e, .slice a ps.length c] w fun en w' => en = .returned (.bool (onlyP p k e ps)) ∧ Below w.heap.size w w' := by
  obtain ⟨W, hW⟩ : ∃ W : World, w.alloc (prgObj p sa sc ta tc) = W := ⟨_, rfl⟩
  have HBW : Hid (Below w.heap.size w W) := by show Below _ _ _; rw [← hW]; exact mem_alloc _ _
  have HBX : Hid (W.heap[w.heap.size]? = some (prgObj p sa sc ta tc)) := by show _ = _; rw [← hW]; exact mem_new _ _
  have y0 : W.cell? ⟨w.heap.size, 0, none⟩ = some (.slice sa p.shared.length sc) := mem_cell HBX.out 0
  have y1 : W.cell? ⟨w.heap.size, 1, none⟩ = some (.slice ta p.tasks.length tc) := mem_cell HBX.out 1
  have HP := Lib.hid (hp.below HBW.out)
  have HG := Lib.hid (hg.below HBW.out)
  have HPS := Lib.hid hps
  have hpl := hps.1
  clear hp hg hps
  go_enter Tryd.func21, Tryd.ntmps21
  go_wp2_with fail
  clear hW y0 y1
  refine (check_any p W sa ta sc tc HP.out HG.out).mono ?_
  rintro en w1 ⟨v, L, rfl, hL, hF, hlen, hB1⟩
  obtain ⟨va, vc, rfl⟩ := own_val hL.ro
  have HB1 : Hid (Below w.heap.size w w1) := HBW.out.trans (hB1.mono HBW.out.size)
  have HL := Lib.hid hL
  have HF := Lib.hid hF
  have HLEN := Lib.hid hlen
  clear hL hF hlen hB1 HP HG HBW HBX
  by_cases hl : L.length = ps.length
  · have hl0 : ((L.length : Int) != (ps.length : Int)) = false := by simp [hl]
    have HLL := Lib.hid hl
    clear hl
    go_wp2_with fail
    clear hl0
    go_loopw [10, 21] (fun _ iv wr => ∃ j : Nat, j ≤ L.length ∧ iv = .int .i64 (j : Int) ∧ ((checkE p).map tep).take j = (ps.map (fun q => (k, e, q))).take j ∧ Below w1.heap.size w1 wr) (fun _ iv _ => L.length - (intOf iv).toNat)
    case atStart => exact ⟨0, Nat.zero_le _, rfl, rfl, Below.refl _ _⟩
    case round =>
      obtain ⟨j, hj, rfl, htk, hB⟩ := hrel
      have HTK := Lib.hid htk
      have HB := Lib.hid hB
      have hj0 : (0 : Int) ≤ (j : Int) := by omega
      have hll := HLEN.out
      clear htk hB
      by_cases hlt : j < L.length
      · have hlt2 : (j : Int) < (L.length : Int) := by omega
        have hlt3 : (j : Int) < (ps.length : Int) := by have := HLL.out; omega
        obtain ⟨gb, rfl, _, _⟩ := own_at HL.out.ro (by omega)
        obtain ⟨r0, r1, r2, r3⟩ := (HL.out.keep HB.out).four hlt
        have HPA := Lib.hid ((HL.out.keep HB.out).ri L[j] (List.getElem_mem hlt))
        have HX : Hid (((checkE p).map tep)[j]? = some (L[j].task, L[j].flt.err, L[j].flt.path)) := by
          show _ = _
          rw [← HF.out]
          unfold flat
          rw [List.map_map, List.getElem?_map, List.getElem?_eq_getElem hlt]
          rfl
        obtain ⟨f, hf⟩ : ∃ f, L[j] = f := ⟨_, rfl⟩
        rw [hf] at r0 r1 r2 r3 HPA HX
        obtain ⟨q, hq⟩ : ∃ q, ps.getD j [] = q := ⟨_, rfl⟩
        obtain ⟨qb, qo, qa, qc, rfl, hc, hr⟩ := (HPS.out.below (HB1.out.trans (HB.out.mono HB1.out.size))).2 j (by have := HLL.out; omega)
        rw [hq] at hc hr
        have HY : Hid ((ps.map (fun q => (k, e, q)))[j]? = some (k, e, q)) := by
          show _ = _
          rw [List.getElem?_map, getD_of (d := []) (by have := HLL.out; omega), hq]
          rfl
        obtain ⟨ft, ⟨fp, fe, fn⟩, fv⟩ := f
        obtain ⟨fa, fc, rfl⟩ : ∃ fa fc, fv = .slice fa fp.length fc := own_val HPA.out
        have HFR : Hid (IRow wr fa fp) := PathV.row HPA.out
        have HQR := Lib.hid hr
        have hpz : fp.length ≤ 9223372036854775807 := HFR.out.1
        have hqz : q.length ≤ 9223372036854775807 := hr.1
        have HSTOP : Hid (ft ≠ k ∨ fe ≠ e ∨ fp ≠ q → onlyP p k e ps = false) := fun h => tep_stop HX.out HY.out (fun hh => by
          simp only [Prod.mk.injEq] at hh
          rcases h with h | h | h
          · exact h hh.1
          · exact h hh.2.1
          · exact h hh.2.2)
        have HNEXT : Hid (ft = k → fe = e → fp = q → ((checkE p).map tep).take (j + 1) = (ps.map (fun q => (k, e, q))).take (j + 1)) := fun h1 h2 h3 => tep_next HTK.out (by rw [HX.out, h1, h2, h3]) HY.out
        obtain ⟨D, hD⟩ : ∃ D : World, wr.alloc (.cells #[.int .i64 ft, .slice fa fp.length fc, .int .i64 fe, .string fn] 38) = D := ⟨_, rfl⟩
        have hBD : Below wr.heap.size wr D := by rw [← hD]; exact mem_alloc _ _
        have hX : D.heap[wr.heap.size]? = some (.cells #[.int .i64 ft, .slice fa fp.length fc, .int .i64 fe, .string fn] 38) := by rw [← hD]; exact mem_new _ _
        have HBD : Hid (Below w1.heap.size w1 D) := HB.out.trans (hBD.mono HB.out.size)
        have x0 := mem_cell hX 0
        have x1 := mem_cell hX 1
        have x2 := mem_cell hX 2
        simp only [List.getElem?_toArray, List.getElem?_cons_zero, List.getElem?_cons_succ] at x0 x1 x2
        have hcD : D.cell? ⟨qb, qo + j, none⟩ = some (.slice qa q.length qc) := cell_below hBD hc
        have HFRD := Lib.hid (HFR.out.below hBD)
        have HQRD := Lib.hid (HQR.out.below hBD)
        clear hf hq hc hr hX hBD HPA HX HY HFR HQR
        go_wp2_with fail
        have HS : Hid (∀ w', Below D.heap.size D w' → w'.cell? ⟨wr.heap.size, 0, none⟩ = some (.int .i64 ft) ∧ w'.cell? ⟨wr.heap.size, 1, none⟩ = some (.slice fa fp.length fc) ∧ w'.cell? ⟨wr.heap.size, 2, none⟩ = some (.int .i64 fe) ∧ w'.cell? ⟨qb, qo + j, none⟩ = some (.slice qa q.length qc) ∧ Below D.heap.size D w') := fun w' h => ⟨cell_below h x0, cell_below h x1, cell_below h x2, cell_below h hcD, h⟩
        have hBD0 : Below D.heap.size D D := Below.refl _ _
        clear hD r0 r1 r2 r3
        by_cases h1 : ft = k
        · have hne1 : (ft != k) = false := by simp [h1]
          by_cases h2 : fe = e
          · have hne2 : (fe != e) = false := by simp [h2]
            have HN2 := Lib.hid (HNEXT.out h1 h2)
            have HS3 := Lib.hid (fun h => HSTOP.out (.inr (.inr h)))
            clear h1 h2
            go_region_held3 (fun w' => w'.cell? ⟨wr.heap.size, 0, none⟩ = some (.int .i64 ft) ∧ w'.cell? ⟨wr.heap.size, 1, none⟩ = some (.slice fa fp.length fc) ∧ w'.cell? ⟨wr.heap.size, 2, none⟩ = some (.int .i64 fe) ∧ w'.cell? ⟨qb, qo + j, none⟩ = some (.slice qa q.length qc) ∧ Below D.heap.size D w')
              (first | (go_split_ands; exact HS.out _ (mem_then (by assumption) (by assumption))) | (go_split_ands; exact HS.out _ (Below.drew (by assumption))) | (go_split_ands; exact HS.out _ (by assumption)))
              (first | (go_at_call 18; go_split_ands; refine (ieq_any fp q _ fa qa fc qc (HFRD.out.below (by assumption)) (HQRD.out.below (by assumption))).mono ?_; rintro en w9 ⟨rfl, hB9⟩))
            all_goals
              go_split_ands
              rename Below D.heap.size D _ => hBQ
              have HBQ : Hid (Below w1.heap.size w1 _) := HBD.out.trans (hBQ.mono HBD.out.size)
              clear hBQ
              by_cases h3 : fp = q
              · have hd3 : decide (fp = q) = true := decide_eq_true h3
                have HN3 := Lib.hid (HN2.out h3)
                clear h3
                rw [hd3]
                simp only [Bool.not_true, Bool.not_false]
                go_wp2_with fail
                go_roundw
                case rel => exact ⟨j + 1, by omega, by go_num, HN3.out, HBQ.out⟩
                case measure => simp [intOf]; omega
              · have hd3 : decide (fp = q) = false := decide_eq_false h3
                have HE := Lib.hid (HS3.out h3)
                clear h3
                rw [hd3]
                simp only [Bool.not_true, Bool.not_false]
                go_wp2_with fail
                go_ret
                exact ⟨by rw [HE.out]; rfl, HB1.out.trans (HBQ.out.mono HB1.out.size)⟩
          · have hne2 : (fe != e) = true := by simpa using h2
            have HE := Lib.hid (HSTOP.out (.inr (.inl h2)))
            clear h1 h2
            go_region
            go_wp2_with fail
            go_ret
            exact ⟨by rw [HE.out]; rfl, HB1.out.trans (HBD.out.drew.mono HB1.out.size)⟩
        · have hne1 : (ft != k) = true := by simpa using h1
          have HE := Lib.hid (HSTOP.out (.inl h1))
          clear h1
          go_region
          go_wp2_with fail
          go_ret
          exact ⟨by rw [HE.out]; rfl, HB1.out.trans (HBD.out.drew.mono HB1.out.size)⟩
      · obtain rfl : j = L.length := by omega
        have HE : Hid (onlyP p k e ps = true) := decide_eq_true (by
          have h := HTK.out
          have h1 : ((checkE p).map tep).length = L.length := by rw [← HF.out]; unfold flat; simp
          have h2 : (ps.map (fun q => (k, e, q))).length = L.length := by rw [List.length_map]; exact HLL.out.symm
          rw [List.take_of_length_le (by omega), List.take_of_length_le (by omega)] at h
          exact h)
        go_wp2_with fail
        go_ret
        exact ⟨by rw [HE.out]; rfl, HB1.out.trans (HB.out.mono HB1.out.size)⟩
  · have hl0 : ((L.length : Int) != (ps.length : Int)) = true := by simp; omega
    have HE : Hid (onlyP p k e ps = false) := decide_eq_false (fun h => hl (by
      have h := congrArg List.length h
      rw [← HF.out] at h
      unfold flat at h
      simpa using h))
    clear hl
    go_wp2_with fail
    go_ret
    exact ⟨by rw [HE.out]; rfl, HB1.out⟩
end Go.Proofs.YtnegdmhmhdojbaaDoor

/-
  Contract: swap (package ontimelaw15): a program with one task replaced.
-/
namespace Go.Proofs.YtnegdmhmhdojbaaDoor
set_option linter.unusedVariables false
set_option linter.unusedSimpArgs false
open Go.RowKit
set_option maxRecDepth 100000
set_option maxHeartbeats 8000000

/-- the cells of a row that came in, as a list -/
theorem src_cells {w : World} {b off m size : Nat} (h : ∀ j, j < m * size → ∃ u, w.cell? ⟨b, off + j, none⟩ = some u ∧ u.oneCell' = true) :
    ∃ news : List Value, Src w (some ⟨b, off, none⟩) m size news ∧ (∀ j, j < m * size → w.cell? ⟨b, off + j, none⟩ = news[j]?) ∧ ∀ u ∈ news, u.oneCell' = true := by
  have add : ∀ j, (⟨b, off, none⟩ : Addr).add j = ⟨b, off + j, none⟩ := fun j => by
    unfold Addr.add
    by_cases h0 : j = 0 <;> simp [h0]
  have hm : ∀ j, ∃ u : Value, j < m * size → w.cell? ⟨b, off + j, none⟩ = some u ∧ u.oneCell' = true := fun j => by
    by_cases hj : j < m * size
    · obtain ⟨u, hu⟩ := h j hj
      exact ⟨u, fun _ => hu⟩
    · exact ⟨.bool false, fun h => absurd h hj⟩
  obtain ⟨f, hf⟩ := Classical.axiomOfChoice hm
  refine ⟨(List.range (m * size)).map f, ⟨by simp, .inr ⟨_, rfl, fun j u hu => ?_⟩⟩, fun j hj => ?_, fun u hu => ?_⟩
  · rw [List.getElem?_map] at hu
    obtain ⟨k, hk, rfl⟩ := Option.map_eq_some_iff.1 hu
    obtain ⟨hj, rfl⟩ := List.getElem?_eq_some_iff.1 hk
    have hj' : j < m * size := by simpa using hj
    rw [add]
    simp only [List.getElem_range]
    exact (hf j hj').1
  · rw [(hf j hj).1]
    simp [hj]
  · obtain ⟨k, hk, rfl⟩ := List.mem_map.1 hu
    exact (hf k (by simpa using hk)).2
theorem tsk_ones {t : Tsk} {p : TskPlace} {o : Nat} {u : Value} (h : (t.cells p)[o]? = some u) : u.oneCell' = true := by
  unfold Tsk.cells at h
  match o, h with
  | 0, h => cases h; rfl
  | 1, h => cases h; rfl
  | 2, h => cases h; rfl
  | 3, h => cases h; rfl
  | 4, h => cases h; rfl
  | 5, h => cases h; rfl
  | 6, h => cases h; rfl
  | 7, h => cases h; rfl
theorem TsksAt.src {w : World} {b off : Nat} {l : List Tsk} (h : TsksAt w (some ⟨b, off, none⟩) l) :
    ∃ news : List Value, Src w (some ⟨b, off, none⟩) l.length 8 news ∧ (∀ j, j < l.length * 8 → w.cell? ⟨b, off + j, none⟩ = news[j]?) ∧ ∀ u ∈ news, u.oneCell' = true :=
  src_cells fun j hj => by
    obtain ⟨b', off', p, ha, hc, _⟩ := h.2 (j / 8) (by omega)
    cases ha
    have := hc (j % 8) (by omega)
    rw [show off + j / 8 * 8 + j % 8 = off + j by omega] at this
    have hs : j % 8 < ((l.getD (j / 8) Tsk.none).cells p).size := by show j % 8 < 8; omega
    rw [Array.getElem?_eq_getElem hs] at this
    exact ⟨_, this, tsk_ones (Array.getElem?_eq_getElem hs)⟩
/-- eight cells of a row set -/
theorem row_set8 {w : World} {base : Nat} {e : TypeId} {g n cap i : Nat} {xs : List Value} {x0 x1 x2 x3 x4 x5 x6 x7 : Value} (h : w.ownsRow base e 8 (.slice (some ⟨g, 0, none⟩) n cap) n xs) (hi : i < n) :
    ((((((((w.setCell ⟨g, i * 8, none⟩ x0).setCell ⟨g, i * 8 + 1, none⟩ x1).setCell ⟨g, i * 8 + 2, none⟩ x2).setCell ⟨g, i * 8 + 3, none⟩ x3).setCell ⟨g, i * 8 + 4, none⟩ x4).setCell ⟨g, i * 8 + 5, none⟩ x5).setCell ⟨g, i * 8 + 6, none⟩ x6).setCell ⟨g, i * 8 + 7, none⟩ x7).ownsRow base e 8 (.slice (some ⟨g, 0, none⟩) n cap) n
      ((((((((xs.set (i * 8) x0).set (i * 8 + 1) x1).set (i * 8 + 2) x2).set (i * 8 + 3) x3).set (i * 8 + 4) x4).set (i * 8 + 5) x5).set (i * 8 + 6) x6).set (i * 8 + 7) x7) :=
  ownsRow_set (ownsRow_set (ownsRow_set (ownsRow_set (ownsRow_set (ownsRow_set (ownsRow_set (ownsRow_set h (by omega)) (by omega)) (by omega)) (by omega)) (by omega)) (by omega)) (by omega)) (by omega)
theorem set8_get {n i k o : Nat} {xs : List Value} {x0 x1 x2 x3 x4 x5 x6 x7 : Value} (hx : xs.length = n * 8) (hi : i < n) (ho : o < 8) :
    ((((((((xs.set (i * 8) x0).set (i * 8 + 1) x1).set (i * 8 + 2) x2).set (i * 8 + 3) x3).set (i * 8 + 4) x4).set (i * 8 + 5) x5).set (i * 8 + 6) x6).set (i * 8 + 7) x7)[k * 8 + o]? =
      if k = i then (#[x0, x1, x2, x3, x4, x5, x6, x7] : Array Value)[o]? else xs[k * 8 + o]? := by
  by_cases hk : k = i
  · subst hk
    rw [if_pos rfl]
    match o, ho with
    | 0, _ => simp [List.getElem?_set, hx]; omega
    | 1, _ => simp [List.getElem?_set, hx]; omega
    | 2, _ => simp [List.getElem?_set, hx]; omega
    | 3, _ => simp [List.getElem?_set, hx]; omega
    | 4, _ => simp [List.getElem?_set, hx]; omega
    | 5, _ => simp [List.getElem?_set, hx]; omega
    | 6, _ => simp [List.getElem?_set, hx]; omega
    | 7, _ => simp [List.getElem?_set, hx]; omega
  · rw [if_neg hk]
    simp only [List.getElem?_set]
    repeat rw [if_neg (by omega)]
theorem tsk_info : (Tryd.prog.info? 45).map (fun i => (i.zero, i.size, i.bytes)) = some (some (.agg #[.string ⟨#[]⟩, .int .i64 0, .slice none 0 0, .slice none 0 0, .int .u8 0, .int .i64 0, .string ⟨#[]⟩, .slice none 0 0]), 8, 128) := by kernel_rfl
/-- the program with a task replaced -/
def swapP (p : Prg) (i : Nat) (t : Tsk) : Prg := ⟨p.shared, p.tasks.set i t⟩
theorem swap_any (p : Prg) (i : Nat) (t : Tsk) (q : TskPlace) (w : World) (sa ta : Option Addr) (sc tc : Nat) (hp : PrgAt w p sa ta) (ht : TskIn w t q) (hi : i < p.tasks.length) (hl : p.tasks.length ≤ 1000) :
    Calls Tryd.prog 22 #[p.val sa sc ta tc, .int .i64 (i : Int), .agg (t.cells q)] w fun e w' => ∃ ta' tc', e = .returned ((swapP p i t).val sa sc ta' tc') ∧ PrgAt w' (swapP p i t) sa ta' ∧ Below w.heap.size w w' := by
  obtain ⟨ti, hti, hz0, hz1, hz2⟩ := info_parts tsk_info
  have HP := Lib.hid hp
  have HT := Lib.hid ht
  have hsl := hp.1.1
  have htl := hp.2.1
  have hi0 : (0 : Int) ≤ (i : Int) := by omega
  have hi2 : (i : Int) < (p.tasks.length : Int) := by omega
  obtain ⟨b, off, q0, rfl, _, _⟩ := hp.2.2 i hi
  obtain ⟨A1, h1⟩ : ∃ A1 : World, w.alloc (prgObj p sa sc (some ⟨b, off, none⟩) tc) = A1 := ⟨_, rfl⟩
  obtain ⟨A2, h2⟩ : ∃ A2 : World, A1.alloc (tskObj t q) = A2 := ⟨_, rfl⟩
  obtain ⟨A3, h3⟩ : ∃ A3 : World, A2.alloc (.cells #[.slice none 0 0, .slice none 0 0] 25) = A3 := ⟨_, rfl⟩
  obtain ⟨A4, h4⟩ : ∃ A4 : World, A3.alloc (.cells #[] 45) = A4 := ⟨_, rfl⟩
  have b1 : Below w.heap.size w A1 := by rw [← h1]; exact mem_alloc _ _
  have b2 : Below A1.heap.size A1 A2 := by rw [← h2]; exact mem_alloc _ _
  have b3 : Below A2.heap.size A2 A3 := by rw [← h3]; exact mem_alloc _ _
  have b4 : Below A3.heap.size A3 A4 := by rw [← h4]; exact mem_alloc _ _
  have HB4 : Hid (Below w.heap.size w A4) := mem_then (mem_then (mem_then b1 b2) b3) b4
  have HLT : Hid (w.heap.size < A1.heap.size ∧ A1.heap.size < A2.heap.size ∧ A2.heap.size < A3.heap.size ∧ A3.heap.size < A4.heap.size) := by
    refine ⟨?_, ?_, ?_, ?_⟩
    · rw [← h1]; simp
    · rw [← h2]; simp
    · rw [← h3]; simp
    · rw [← h4]; simp
  have HM1 : Hid (A4.heap[w.heap.size]? = some (prgObj p sa sc (some ⟨b, off, none⟩) tc)) := mem_keep (by rw [← h1]; exact mem_new _ _) (mem_then (mem_then b2 b3) b4)
  have HM2 : Hid (A4.heap[A1.heap.size]? = some (tskObj t q)) := mem_keep (by rw [← h2]; exact mem_new _ _) (mem_then b3 b4)
  have HM3 : Hid (A4.heap[A2.heap.size]? = some (.cells #[.slice none 0 0, .slice none 0 0] 25)) := mem_keep (by rw [← h3]; exact mem_new _ _) b4
  have HM4 : Hid (A4.heap[A3.heap.size]? = some (.cells #[] 45)) := by show _ = _; rw [← h4]; exact mem_new _ _
  have HOWN : Hid (A4.ownsRow w.heap.size 45 8 (.slice (some ⟨A3.heap.size, 0, none⟩) 0 0) 0 []) := ⟨rfl, .inr ⟨A3.heap.size, 0, #[], rfl, by have := HLT.out; omega, HM4.out, by omega, by unfold maxLen; omega, rfl, rfl⟩⟩
  obtain ⟨news, hsrc, hnews, hones⟩ := (hp.2.below HB4.out).src
  have HSRC := Lib.hid hsrc
  have HNEWS := Lib.hid hnews
  have HONES := Lib.hid hones
  have y1 : A4.cell? ⟨w.heap.size, 1, none⟩ = some (.slice (some ⟨b, off, none⟩) p.tasks.length tc) := mem_cell HM1.out 1
  unfold Tsk.cells
  clear hp ht b1 b2 b3 b4 hsrc hnews hones
  go_enter Tryd.func22, Tryd.ntmps22
  go_wp2_with (at_builtin; refine wpList_append_src _ rfl (.tmp 7) (.tmp 9) 23 rfl w.heap.size 45 ti _ 8 128 Tryd.underlying23 hti hz0 hz1 hz2 rfl (by decide) (.slice (some ⟨A3.heap.size, 0, none⟩) 0 0) 0 [] rfl HOWN.out (some ⟨b, off, none⟩) p.tasks.length tc news rfl HSRC.out HONES.out (by unfold maxLen; omega) (by omega) (by have := HLT.out; omega) ?_)
  intro v5 w5 hown5 hg5 hpl5
  rcases ownsRow_form hown5 with ⟨_, h0⟩ | ⟨gb, cap, rfl, hgb, hgl, hcap⟩
  · omega
  have HGB : Hid (gb = A3.heap.size ∨ gb = A4.heap.size) := by
    rcases hpl5 with h | h
    · exact .inl (Option.some.inj h)
    · exact .inr (Option.some.inj h)
  have keep5 : ∀ {k : Nat} {o : Obj}, A4.heap[k]? = some o → k ≠ A3.heap.size → w5.heap[k]? = some o := fun {k o} hk hn => (hg5.block k (mem_lt hk) (fun e => hn (Option.some.inj e))).trans hk
  have m1 := keep5 HM1.out (by have := HLT.out; omega)
  have m2 := keep5 HM2.out (by have := HLT.out; omega)
  have m3 := keep5 HM3.out (by have := HLT.out; omega)
  have HB5 : Hid (Below w.heap.size w w5) := HB4.out.grown hg5 (by have := HLT.out; omega) (fun k hk => by have h9 := HLT.out; have hk : A3.heap.size = k := Option.some.inj hk; omega)
  have z1 := mem_free m1 1
  have y1 : w5.cell? ⟨w.heap.size, 1, none⟩ = some (.slice (some ⟨b, off, none⟩) p.tasks.length tc) := mem_cell m1 1
  obtain ⟨w6, h6⟩ : ∃ w6 : World, w5.setCell ⟨w.heap.size, 1, none⟩ (.slice (some ⟨gb, 0, none⟩) p.tasks.length cap) = w6 := ⟨_, rfl⟩
  have HM16 : Hid (w6.heap[w.heap.size]? = some (.cells #[.slice sa p.shared.length sc, .slice (some ⟨gb, 0, none⟩) p.tasks.length cap] 25)) := by show _ = _; rw [← h6, mem_set m1]; rfl
  have m26 : w6.heap[A1.heap.size]? = some (tskObj t q) := by rw [← h6, Below.heap_setCell _ _ _ _ (by show A1.heap.size ≠ w.heap.size; have := HLT.out; omega)]; exact m2
  have HM36 : Hid (w6.heap[A2.heap.size]? = some (.cells #[.slice none 0 0, .slice none 0 0] 25)) := by show _ = _; rw [← h6, Below.heap_setCell _ _ _ _ (by show A2.heap.size ≠ w.heap.size; have := HLT.out; omega)]; exact m3
  have HOWN6 : Hid (w6.ownsRow w.heap.size 45 8 (.slice (some ⟨gb, 0, none⟩) p.tasks.length cap) p.tasks.length news) := by
    show World.ownsRow _ _ _ _ _ _ _
    rw [← h6]
    exact own_keep hown5 (fun k hk _ => Below.heap_setCell _ _ _ _ (by have hk : gb = k := Option.some.inj hk; have h8 := HLT.out; have h9 := HGB.out; show k ≠ w.heap.size; omega))
  have HB6 : Hid (Below w.heap.size w w6) := by show Below _ _ _; rw [← h6]; exact HB5.out.setCell (Nat.le_refl _) _
  have hlen : news.length = p.tasks.length * 8 := hown5.1
  have get6 : ∀ k, k < p.tasks.length * 8 → ∃ u, w6.cell? ⟨gb, k, none⟩ = some u ∧ w6.frozen? ⟨gb, k, none⟩ = false := fun k hk => by
    refine ⟨_, own_get HOWN6.out (List.getElem?_eq_getElem (by rw [hlen]; exact hk)), ?_⟩
    rcases HOWN6.out.2 with ⟨_, h0⟩ | ⟨g', cap', cur, hv, _, hc, _⟩
    · omega
    · cases hv
      exact mem_free hc k
  obtain ⟨u0, e0, f0⟩ := get6 (i * 8) (by omega)
  obtain ⟨u1, e1, f1⟩ := get6 (i * 8 + 1) (by omega)
  obtain ⟨u2, e2, f2⟩ := get6 (i * 8 + 2) (by omega)
  obtain ⟨u3, e3, f3⟩ := get6 (i * 8 + 3) (by omega)
  obtain ⟨u4, e4, f4⟩ := get6 (i * 8 + 4) (by omega)
  obtain ⟨u5, e5, f5⟩ := get6 (i * 8 + 5) (by omega)
  obtain ⟨u6, e6, f6⟩ := get6 (i * 8 + 6) (by omega)
  obtain ⟨u7, e7, f7⟩ := get6 (i * 8 + 7) (by omega)
  have HLEN := Lib.hid hlen
  have y6 : w6.cell? ⟨w.heap.size, 1, none⟩ = some (.slice (some ⟨gb, 0, none⟩) p.tasks.length cap) := mem_cell HM16.out 1
  have x0 := mem_cell m26 0
  have x1 := mem_cell m26 1
  have x2 := mem_cell m26 2
  have x3 := mem_cell m26 3
  have x4 := mem_cell m26 4
  have x5 := mem_cell m26 5
  have x6 := mem_cell m26 6
  have x7 := mem_cell m26 7
  simp only [List.getElem?_toArray, List.getElem?_cons_zero, List.getElem?_cons_succ] at x0 x1 x2 x3 x4 x5 x6 x7
  obtain ⟨w7, h7⟩ : ∃ w7 : World, (((((((w6.setCell ⟨gb, i * 8, none⟩ (.string t.name)).setCell ⟨gb, i * 8 + 1, none⟩ (.int .i64 t.period)).setCell ⟨gb, i * 8 + 2, none⟩ (.slice q.va t.vars.length q.vc)).setCell ⟨gb, i * 8 + 3, none⟩ (.slice q.aa t.arrays.length q.ac)).setCell ⟨gb, i * 8 + 4, none⟩ (.int .u8 t.body.kind)).setCell ⟨gb, i * 8 + 5, none⟩ (.int .i64 t.body.num)).setCell ⟨gb, i * 8 + 6, none⟩ (.string t.body.name)).setCell ⟨gb, i * 8 + 7, none⟩ (.slice q.ka t.body.len q.kc) = w7 := ⟨_, rfl⟩
  have hne1 : w.heap.size ≠ gb := by have := HLT.out; have := HGB.out; omega
  have hne2 : A2.heap.size ≠ gb := by have := HLT.out; have := HGB.out; omega
  have m17 : w7.heap[w.heap.size]? = some (.cells #[.slice sa p.shared.length sc, .slice (some ⟨gb, 0, none⟩) p.tasks.length cap] 25) := by
    rw [← h7]
    iterate 8 rw [Below.heap_setCell _ _ _ _ hne1]
    exact HM16.out
  have m37 : w7.heap[A2.heap.size]? = some (.cells #[.slice none 0 0, .slice none 0 0] 25) := by
    rw [← h7]
    iterate 8 rw [Below.heap_setCell _ _ _ _ hne2]
    exact HM36.out
  have HOWN7 := Lib.hid (row_set8 (x0 := .string t.name) (x1 := .int .i64 t.period) (x2 := .slice q.va t.vars.length q.vc) (x3 := .slice q.aa t.arrays.length q.ac) (x4 := .int .u8 t.body.kind) (x5 := .int .i64 t.body.num) (x6 := .string t.body.name) (x7 := .slice q.ka t.body.len q.kc) HOWN6.out hi)
  have HB7 : Hid (Below w.heap.size w w7) := by
    show Below _ _ _
    rw [← h7]
    have hgb' : w.heap.size ≤ gb := hgb
    exact (((((((HB6.out.setCell (p := ⟨gb, _, none⟩) hgb' _).setCell (p := ⟨gb, _, none⟩) hgb' _).setCell (p := ⟨gb, _, none⟩) hgb' _).setCell (p := ⟨gb, _, none⟩) hgb' _).setCell (p := ⟨gb, _, none⟩) hgb' _).setCell (p := ⟨gb, _, none⟩) hgb' _).setCell (p := ⟨gb, _, none⟩) hgb' _).setCell (p := ⟨gb, _, none⟩) hgb' _
  rw [h7] at HOWN7
  have k0 := mem_cell m17 0
  have k1 := mem_cell m17 1
  have r0 := mem_cell m37 0
  have r1 := mem_cell m37 1
  have s0 := mem_free m37 0
  have s1 := mem_free m37 1
  simp only [List.getElem?_toArray, List.getElem?_cons_zero, List.getElem?_cons_succ] at k0 k1 r0 r1
  clear m1 m2 m3 m26 m17 m37 hown5 hg5 hpl5 keep5 get6 hlen h1 h2 h3 h4
  go_wp2_with fail
  refine bodyPost_ret (v := .agg #[.slice sa p.shared.length sc, .slice (some ⟨gb, 0, none⟩) p.tasks.length cap]) (by simp [results, Tryd.results22, go_sem, r0, r1]) rfl ?_
  have HB8 : Hid (Below w.heap.size w ((w7.setCell ⟨A2.heap.size, 0, none⟩ (.slice sa p.shared.length sc)).setCell ⟨A2.heap.size, 1, none⟩ (.slice (some ⟨gb, 0, none⟩) p.tasks.length cap))) := by
    have hA2 : w.heap.size ≤ A2.heap.size := by have := HLT.out; omega
    exact (HB7.out.setCell (p := ⟨A2.heap.size, 0, none⟩) hA2 _).setCell (p := ⟨A2.heap.size, 1, none⟩) hA2 _
  have HOWN8 := own_keep (w' := (w7.setCell ⟨A2.heap.size, 0, none⟩ (.slice sa p.shared.length sc)).setCell ⟨A2.heap.size, 1, none⟩ (.slice (some ⟨gb, 0, none⟩) p.tasks.length cap)) HOWN7.out (fun k hk _ => by
    have hk : gb = k := Option.some.inj hk
    subst hk
    rw [Below.heap_setCell _ _ _ _ (fun e => hne2 e.symm), Below.heap_setCell _ _ _ _ (fun e => hne2 e.symm)])
  obtain ⟨w8, hw8⟩ : ∃ w8 : World, (w7.setCell ⟨A2.heap.size, 0, none⟩ (.slice sa p.shared.length sc)).setCell ⟨A2.heap.size, 1, none⟩ (.slice (some ⟨gb, 0, none⟩) p.tasks.length cap) = w8 := ⟨_, rfl⟩
  rw [hw8] at HB8 HOWN8 ⊢
  have hcell : ∀ k o, k < p.tasks.length → o < 8 → w8.cell? ⟨gb, 0 + k * 8 + o, none⟩ = if k = i then (t.cells q)[o]? else w.cell? ⟨b, off + k * 8 + o, none⟩ := fun k o hk ho => by
    have h1 := set8_get (k := k) (x0 := .string t.name) (x1 := .int .i64 t.period) (x2 := .slice q.va t.vars.length q.vc) (x3 := .slice q.aa t.arrays.length q.ac) (x4 := .int .u8 t.body.kind) (x5 := .int .i64 t.body.num) (x6 := .string t.body.name) (x7 := .slice q.ka t.body.len q.kc) HLEN.out hi ho
    have h2 : (((((((((news.set (i * 8) (.string t.name)).set (i * 8 + 1) (.int .i64 t.period)).set (i * 8 + 2) (.slice q.va t.vars.length q.vc)).set (i * 8 + 3) (.slice q.aa t.arrays.length q.ac)).set (i * 8 + 4) (.int .u8 t.body.kind)).set (i * 8 + 5) (.int .i64 t.body.num)).set (i * 8 + 6) (.string t.body.name)).set (i * 8 + 7) (.slice q.ka t.body.len q.kc)))[k * 8 + o]? = w8.cell? ⟨gb, k * 8 + o, none⟩ := by
      rw [List.getElem?_eq_getElem (by simp only [List.length_set]; rw [HLEN.out]; omega)]
      exact (own_get HOWN8 (List.getElem?_eq_getElem _)).symm
    rw [Nat.zero_add, ← h2, h1]
    by_cases e : k = i
    · rw [if_pos e, if_pos e]
      rfl
    · rw [if_neg e, if_neg e, ← HNEWS.out (k * 8 + o) (by omega), Nat.add_assoc]
      obtain ⟨b2, off2, p2, ha2, hc2, _⟩ := HP.out.2.2 k hk
      cases ha2
      have hs : o < ((p.tasks.getD k Tsk.none).cells p2).size := ho
      have hc3 := hc2 o ho
      rw [Array.getElem?_eq_getElem hs, Nat.add_assoc] at hc3
      rw [cell_below HB4.out hc3, hc3]
  refine ⟨some ⟨gb, 0, none⟩, cap, ?_, ⟨HP.out.1.below HB8.out, ⟨by show (p.tasks.set i t).length ≤ _; rw [List.length_set]; exact htl, fun k hk => ?_⟩⟩, HB8.out⟩
  · show _ = Ending.returned (.agg #[.slice sa p.shared.length sc, .slice (some ⟨gb, 0, none⟩) (p.tasks.set i t).length cap])
    rw [List.length_set]
  · have hk' : k < p.tasks.length := by
      have : k < (p.tasks.set i t).length := hk
      rwa [List.length_set] at this
    by_cases e : k = i
    · subst e
      have hget : (swapP p k t).tasks.getD k Tsk.none = t := by show (p.tasks.set k t).getD k Tsk.none = t; simp [hk']
      rw [hget]
      exact ⟨gb, 0, q, rfl, fun o ho => by rw [hcell k o hk' ho, if_pos rfl], HT.out.below HB8.out⟩
    · have hget : (swapP p i t).tasks.getD k Tsk.none = p.tasks.getD k Tsk.none := by
        show (p.tasks.set i t).getD k Tsk.none = _
        rw [List.getD_eq_getElem?_getD, List.getElem?_set_ne (fun h => e h.symm), ← List.getD_eq_getElem?_getD]
      obtain ⟨b2, off2, p2, ha2, hc2, hin⟩ := HP.out.2.2 k hk'
      cases ha2
      rw [hget]
      exact ⟨gb, 0, p2, rfl, fun o ho => by rw [hcell k o hk' ho, if_neg e]; exact hc2 o ho, hin.below HB8.out⟩
end Go.Proofs.YtnegdmhmhdojbaaDoor

/-
  Plain facts of the faults: programs without faults, a task replaced, a name repeated. No walk here.
-/
namespace Go.Proofs.YtnegdmhmhdojbaaDoor
set_option linter.unusedVariables false
set_option linter.unusedSimpArgs false
open Go.RowKit

theorem declF_append (known : ByteArray → Bool) : ∀ (l m so : List ByteArray), declF known so (l ++ m) = declF known so l ++ declF known (so ++ l) m
  | [], m, so => by simp [declF]
  | x :: l, m, so => by
    rw [List.cons_append, declF, declF, declF_append known l m (so ++ [x]), List.append_assoc, List.append_assoc]
    rfl
theorem declF_congr {known known' : ByteArray → Bool} (hk : ∀ s, known s = known' s) : ∀ (l so so' : List ByteArray), (∀ s, memB so s = memB so' s) → declF known so l = declF known' so' l
  | [], _, _, _ => rfl
  | x :: l, so, so', h => by
    rw [declF, declF, hk, h, declF_congr hk l (so ++ [x]) (so' ++ [x]) (fun s => by rw [memB_append, memB_append, h])]
/-- a name that is there already turns no question -/
theorem memB_again {l : List ByteArray} {x : ByteArray} (h : x ∈ l) (s : ByteArray) : memB (l ++ [x]) s = memB l s := by
  rw [memB_snoc]
  by_cases e : x = s
  · subst e
    rw [memB_iff.2 h]
    rfl
  · simp [e]
theorem memB_mid {so l m : List ByteArray} {x : ByteArray} (h : x ∈ l) (s : ByteArray) : memB (so ++ (l ++ [x]) ++ m) s = memB (so ++ l ++ m) s := by
  rw [memB_append, memB_append, memB_again h, memB_append, memB_append]
/-- the same names, the same faults -/
theorem faultN_congr {d d' : Nms} (h1 : ∀ s, memB d.shared s = memB d'.shared s) (h2 : ∀ s, memB d.scalars s = memB d'.scalars s) (h3 : ∀ s, memB d.arrays s = memB d'.arrays s) (k : Int) (n : ByteArray) (pl : Bool) (lo lk : List ByteArray) :
    faultN d k n pl lo lk = faultN d' k n pl lo lk := by
  unfold faultN
  rw [h1, h2, h3]
theorem faultsT_congr {d d' : Nms} (h1 : ∀ s, memB d.shared s = memB d'.shared s) (h2 : ∀ s, memB d.scalars s = memB d'.scalars s) (h3 : ∀ s, memB d.arrays s = memB d'.arrays s) : ∀ (t : Tree) (path : List Int) (pl : Bool) (lo lk : List ByteArray),
    faultsT d t path pl lo lk = faultsT d' t path pl lo lk := by
  intro t
  induction t using Tree.ind with
  | h t ih =>
    intro path pl lo lk
    rw [faultsT_eq, faultsT_eq]
    unfold ownF
    rw [faultN_congr h1 h2 h3]
    exact congrArg _ (concatTo_congr fun i hi => ih i hi _ _ _ _)
theorem tasksF_nil {shared : List ByteArray} : ∀ {l : List Tsk} {so : List ByteArray} {i : Nat}, tasksF shared so i l = [] → ∀ j (h : j < l.length), memB (so ++ (l.take j).map (·.name)) l[j].name = false ∧ taskF shared l[j] = []
  | t :: l, so, i, h, j, hj => by
    rw [tasksF, List.append_eq_nil_iff, List.map_eq_nil_iff, List.append_eq_nil_iff] at h
    obtain ⟨⟨h1, h2⟩, h3⟩ := h
    cases j with
    | zero =>
      refine ⟨?_, h2⟩
      cases hb : memB so t.name with
      | false => simpa using hb
      | true => rw [hb] at h1; cases h1
    | succ j =>
      have := tasksF_nil h3 j (by simpa using hj)
      simpa using this
/-- one task replaced in a program without faults -/
theorem tasksF_set {shared : List ByteArray} {t' : Tsk} : ∀ {l : List Tsk} {so : List ByteArray} {i j : Nat}, tasksF shared so i l = [] → (h : j < l.length) → t'.name = l[j].name → tasksF shared so i (l.set j t') = (taskF shared t').map (TFlt.mk ((i + j : Nat) : Int))
  | t :: l, so, i, 0, h, hj, hn => by
    rw [tasksF, List.append_eq_nil_iff, List.map_eq_nil_iff, List.append_eq_nil_iff] at h
    obtain ⟨⟨h1, _⟩, h3⟩ := h
    have hn' : t'.name = t.name := hn
    rw [List.set_cons_zero, tasksF, hn', h1, h3]
    simp
  | t :: l, so, i, j + 1, h, hj, hn => by
    rw [tasksF, List.append_eq_nil_iff, List.map_eq_nil_iff, List.append_eq_nil_iff] at h
    obtain ⟨⟨h1, h2⟩, h3⟩ := h
    rw [List.set_cons_succ, tasksF, h1, h2, tasksF_set h3 (by simpa using hj) (by simpa using hn), show i + 1 + j = i + (j + 1) by omega]
    rfl
theorem okP_parts {p : Prg} (h : okP p = true) : prgOk p = true ∧ declF (fun _ => false) [] (p.shared.map (·.name)) = [] ∧ tasksF (p.shared.map (·.name)) [] 0 p.tasks = [] := by
  unfold okP at h
  rw [Bool.and_eq_true, List.isEmpty_iff] at h
  obtain ⟨h1, h2⟩ := h
  unfold checkE at h2
  rw [if_pos h1] at h2
  unfold checkF at h2
  rw [List.append_eq_nil_iff, List.map_eq_nil_iff] at h2
  exact ⟨h1, h2⟩
/-- the faults of a program without faults, one task replaced by a valid one of the same name -/
theorem checkE_swap {p : Prg} {i : Nat} {t : Tsk} (h : okP p = true) (hi : i < p.tasks.length) (hn : t.name = (p.tasks.getD i Tsk.none).name) (ht : tskOk t = true) : checkE (swapP p i t) = (taskF (p.shared.map (·.name)) t).map (TFlt.mk (i : Int)) := by
  obtain ⟨h1, h2, h3⟩ := okP_parts h
  have hv : prgOk (swapP p i t) = true := by
    unfold prgOk at h1 ⊢
    simp only [Bool.and_eq_true, decide_eq_true_eq, List.all_eq_true] at h1 ⊢
    refine ⟨h1.1, by show (p.tasks.set i t).length ≤ 8; rw [List.length_set]; exact h1.2.1, h1.2.2.1, fun x hx => ?_⟩
    rcases List.mem_or_eq_of_mem_set hx with hx | rfl
    · exact h1.2.2.2 x hx
    · exact ht
  unfold checkE
  rw [if_pos hv]
  unfold checkF
  show (declF _ _ (p.shared.map (·.name))).map _ ++ tasksF (p.shared.map (·.name)) _ _ (p.tasks.set i t) = _
  rw [h2, tasksF_set h3 hi (by rw [hn]; simp [hi])]
  simp
end Go.Proofs.YtnegdmhmhdojbaaDoor
