/-
  Contracts: equal tasks and programs (package ast).
-/
import Derived.Test.YtfkegjdgbnkicaaDoorArrEq
namespace Go.Proofs.YtfkegjdgbnkicaaDoor
open Go.RowKit
set_option maxRecDepth 100000

/-- a task's value -/
abbrev Tsk.val (t : Tsk) (p : TskPlace) : Value := .agg #[.string t.name, .int .i64 t.period, .slice p.va t.vars.length p.vc, .slice p.aa t.arrays.length p.ac, .int .u8 t.body.kind, .int .i64 t.body.num, .string t.body.name, .slice p.ka t.body.len p.kc]
theorem tsk_ext {t u : Tsk} (h1 : t.name = u.name) (h2 : t.period = u.period) (h3 : t.vars = u.vars) (h4 : t.arrays = u.arrays) (h5 : t.body = u.body) : t = u := by
  cases t; cases u; simp_all
theorem box88 {w wr : World} {x0 x1 x2 x3 x4 x5 x6 x7 y0 y1 y2 y3 y4 y5 y6 y7 : Value} {T : TypeId} (h : Below (w.heap.size + 1 + 1) ((w.alloc (.cells #[x0, x1, x2, x3, x4, x5, x6, x7] T)).alloc (.cells #[y0, y1, y2, y3, y4, y5, y6, y7] T)) wr) :
    (wr.cell? ⟨w.heap.size, 0, none⟩ = some x0 ∧ wr.cell? ⟨w.heap.size, 1, none⟩ = some x1 ∧ wr.cell? ⟨w.heap.size, 2, none⟩ = some x2 ∧ wr.cell? ⟨w.heap.size, 3, none⟩ = some x3 ∧
    wr.cell? ⟨w.heap.size, 4, none⟩ = some x4 ∧ wr.cell? ⟨w.heap.size, 5, none⟩ = some x5 ∧ wr.cell? ⟨w.heap.size, 6, none⟩ = some x6 ∧ wr.cell? ⟨w.heap.size, 7, none⟩ = some x7) ∧
    (wr.cell? ⟨w.heap.size + 1, 0, none⟩ = some y0 ∧ wr.cell? ⟨w.heap.size + 1, 1, none⟩ = some y1 ∧ wr.cell? ⟨w.heap.size + 1, 2, none⟩ = some y2 ∧ wr.cell? ⟨w.heap.size + 1, 3, none⟩ = some y3 ∧
    wr.cell? ⟨w.heap.size + 1, 4, none⟩ = some y4 ∧ wr.cell? ⟨w.heap.size + 1, 5, none⟩ = some y5 ∧ wr.cell? ⟨w.heap.size + 1, 6, none⟩ = some y6 ∧ wr.cell? ⟨w.heap.size + 1, 7, none⟩ = some y7) :=
  ⟨⟨bb_cell h 0, bb_cell h 1, bb_cell h 2, bb_cell h 3, bb_cell h 4, bb_cell h 5, bb_cell h 6, bb_cell h 7⟩, bb_cell' h 0, bb_cell' h 1, bb_cell' h 2, bb_cell' h 3, bb_cell' h 4, bb_cell' h 5, bb_cell' h 6, bb_cell' h 7⟩

set_option maxHeartbeats 2000000 in
theorem equalTasks_any (t u : Tsk) (p q : TskPlace) (w : World) (ht : TskIn w t p) (hu : TskIn w u q) :
    Calls Tryd.prog 55 #[t.val p, u.val q] w fun e w' => e = .returned (.bool (eqC t u)) ∧ Below w.heap.size w w' := by
  have HT := Lib.hid ht
  have HU := Lib.hid hu
  clear ht hu
  have HNE : Hid ((¬ t.name = u.name ∨ ¬ t.period = u.period ∨ ¬ t.vars = u.vars ∨ ¬ t.arrays = u.arrays ∨ ¬ t.body = u.body) → eqC t u = false) := fun h => eqC_false.2 (fun e => by subst e; simp at h)
  go_enter Tryd.func55, Tryd.ntmps55
  go_wp2_with fail
  · rename t.name.toList = u.name.toList => h1
    rename t.period = u.period => h2
    refine (equalStrs_any t.vars u.vars _ p.va q.va p.vc q.vc (HT.out.vars.below two_alloc) (HU.out.vars.below two_alloc)).mono ?_
    rintro e w1 ⟨rfl, hB1⟩
    have HB1 := Lib.hid (two_alloc.trans (hB1.mono two_alloc.size))
    have x3 : w1.cell? ⟨w.heap.size, 3, none⟩ = some (.slice p.aa t.arrays.length p.ac) := cell_below hB1 (by simp [World.cell?_alloc_lt])
    have x4 : w1.cell? ⟨w.heap.size, 4, none⟩ = some (.int .u8 t.body.kind) := cell_below hB1 (by simp [World.cell?_alloc_lt])
    have x5 : w1.cell? ⟨w.heap.size, 5, none⟩ = some (.int .i64 t.body.num) := cell_below hB1 (by simp [World.cell?_alloc_lt])
    have x6 : w1.cell? ⟨w.heap.size, 6, none⟩ = some (.string t.body.name) := cell_below hB1 (by simp [World.cell?_alloc_lt])
    have x7 : w1.cell? ⟨w.heap.size, 7, none⟩ = some (.slice p.ka t.body.len p.kc) := cell_below hB1 (by simp [World.cell?_alloc_lt])
    have y3 : w1.cell? ⟨w.heap.size + 1, 3, none⟩ = some (.slice q.aa u.arrays.length q.ac) := cell_below hB1 (by simp)
    have y4 : w1.cell? ⟨w.heap.size + 1, 4, none⟩ = some (.int .u8 u.body.kind) := cell_below hB1 (by simp)
    have y5 : w1.cell? ⟨w.heap.size + 1, 5, none⟩ = some (.int .i64 u.body.num) := cell_below hB1 (by simp)
    have y6 : w1.cell? ⟨w.heap.size + 1, 6, none⟩ = some (.string u.body.name) := cell_below hB1 (by simp)
    have y7 : w1.cell? ⟨w.heap.size + 1, 7, none⟩ = some (.slice q.ka u.body.len q.kc) := cell_below hB1 (by simp)
    have H1 := Lib.hid h1
    have H2 := Lib.hid h2
    clear hB1 h1 h2
    cases hv : eqC t.vars u.vars with
    | false =>
      have HE := Lib.hid (HNE.out (.inr (.inr (.inl (eqC_false.1 hv)))))
      clear hv
      go_wp2_with fail
      go_ret
      exact ⟨by rw [HE.out]; rfl, HB1.out⟩
    | true =>
      have HV := Lib.hid (eqC_true.1 hv)
      clear hv
      go_wp2_with fail
      refine (equalArrs_any t.arrays u.arrays _ p.aa q.aa p.ac q.ac (HT.out.arrays.below HB1.out) (HU.out.arrays.below HB1.out)).mono ?_
      rintro e w2 ⟨rfl, hB2⟩
      have HB2 := Lib.hid (HB1.out.trans (hB2.mono HB1.out.size))
      have x4' := cell_below hB2 x4
      have x5' := cell_below hB2 x5
      have x6' := cell_below hB2 x6
      have x7' := cell_below hB2 x7
      have y4' := cell_below hB2 y4
      have y5' := cell_below hB2 y5
      have y6' := cell_below hB2 y6
      have y7' := cell_below hB2 y7
      clear hB2 x3 x4 x5 x6 x7 y3 y4 y5 y6 y7
      cases ha : eqC t.arrays u.arrays with
      | false =>
        have HE := Lib.hid (HNE.out (.inr (.inr (.inr (.inl (eqC_false.1 ha))))))
        clear ha
        go_wp2_with fail
        go_ret
        exact ⟨by rw [HE.out]; rfl, HB2.out⟩
      | true =>
        have HAR := Lib.hid (eqC_true.1 ha)
        clear ha
        go_wp2_with fail
        refine (equal_any t.body u.body _ p.ka q.ka p.kc q.kc (HT.out.body.below HB2.out) (HU.out.body.below HB2.out)).mono ?_
        rintro e w3 ⟨rfl, hB3⟩
        have HB3 := Lib.hid (HB2.out.trans (hB3.mono HB2.out.size))
        have HE : Hid (eqC t u = eqT t.body u.body) := by
          show _ = _
          cases hb : eqT t.body u.body with
          | true => exact eqC_true.2 (tsk_ext (bytes_eq_iff.1 H1.out) H2.out HV.out HAR.out (eqT_true.1 hb))
          | false => exact HNE.out (.inr (.inr (.inr (.inr (eqT_false.1 hb)))))
        clear hB3
        go_wp2_with fail
        go_ret
        exact ⟨by rw [HE.out]; rfl, HB3.out⟩
  · rename ¬ t.period = u.period => h2
    have HE := Lib.hid (HNE.out (.inr (.inl h2)))
    go_ret
    exact ⟨by rw [HE.out]; rfl, two_alloc⟩
  · rename ¬ t.name.toList = u.name.toList => h2
    have HE := Lib.hid (HNE.out (.inl (fun e => h2 (by rw [e]))))
    go_ret
    exact ⟨by rw [HE.out]; rfl, two_alloc⟩

set_option maxHeartbeats 2000000 in
theorem equalFuncTasks_any (l m : List Tsk) (w : World) (a a' : Option Addr) (c c' : Nat) (hl : TsksAt w a l) (hm : TsksAt w a' m) :
    Calls Tryd.prog 54 #[.slice a l.length c, .slice a' m.length c', .func (.func 55) #[] #[]] w fun e w' => e = .returned (.bool (eqC l m)) ∧ Below w.heap.size w w' := by
  have HL := Lib.hid hl.2
  have HM := Lib.hid hm.2
  have hll := hl.1
  have hml := hm.1
  clear hl hm
  by_cases hlen : l.length = m.length
  · have q0 : ((l.length : Int) != (m.length : Int)) = false := by simp [hlen]
    have HLEN := Lib.hid hlen
    have hle : l.length ≤ m.length := by omega
    clear hlen
    go_enter Tryd.func54, Tryd.ntmps54
    go_wp2_with fail
    go_loopw [17] (fun i wr => ∃ j : Nat, j ≤ l.length ∧ i = .int .i64 j ∧ l.take j = m.take j ∧ Below w.heap.size w wr) (fun i _ => l.length - (intOf i).toNat)
    case atStart => exact ⟨0, Nat.zero_le _, rfl, rfl, Below.refl _ _⟩
    case round =>
      obtain ⟨j, hj, rfl, htk, hB⟩ := hrel
      have HTK := Lib.hid htk
      have hsz := hB.size
      clear htk
      by_cases hlt : j < l.length
      · have hlm : j < m.length := by omega
        obtain ⟨b, off, p, rfl, hc, hin⟩ := HL.out j hlt
        obtain ⟨b', off', q, rfl, hc', hin'⟩ := HM.out j hlm
        obtain ⟨t, ht⟩ : ∃ t, l.getD j Tsk.none = t := ⟨_, rfl⟩
        obtain ⟨u, hu⟩ : ∃ u, m.getD j Tsk.none = u := ⟨_, rfl⟩
        rw [ht] at hc hin
        rw [hu] at hc' hin'
        obtain ⟨⟨g0, g1, g2, g3, g4, g5, g6, g7⟩, hbl⟩ := tsk_cells hB hc
        obtain ⟨⟨k0, k1, k2, k3, k4, k5, k6, k7⟩, hbl'⟩ := tsk_cells hB hc'
        have HIN := Lib.hid (hin.below hB)
        have HIN' := Lib.hid (hin'.below hB)
        have HT := Lib.hid ht
        have HU := Lib.hid hu
        clear hc hin hc' hin' ht hu
        go_wp2_with fail
        have HBB : Hid (Below wr.heap.size wr ((wr.alloc (tskObj t p)).alloc (tskObj u q))) := two_alloc
        refine (equalTasks_any t u p q _ (HIN.out.below HBB.out) (HIN'.out.below HBB.out)).mono ?_
        rintro e w1 ⟨rfl, hB1⟩
        have hB2 := (hB.trans (HBB.out.mono hsz)).trans (hB1.mono (Nat.le_trans hsz HBB.out.size))
        clear hB1 g0 g1 g2 g3 g4 g5 g6 g7 k0 k1 k2 k3 k4 k5 k6 k7
        cases hv : eqC t u with
        | true =>
          have HN := Lib.hid (take_eq_next (d := Tsk.none) hlt hlm HTK.out (by rw [HT.out, HU.out]; exact eqC_true.1 hv))
          clear hv
          go_wp2_with fail
          go_roundw
          case rel => exact ⟨j + 1, by omega, by go_num, HN.out, hB2⟩
          case measure => simp [intOf]; omega
        | false =>
          have HE : Hid (eqC l m = false) := eqC_false.2 (fun e => eqC_false.1 hv (by rw [← HT.out, ← HU.out, e]))
          clear hv
          go_wp2_with fail
          go_ret
          exact ⟨by rw [HE.out]; rfl, hB2⟩
      · obtain rfl : j = l.length := by omega
        have HE : Hid (eqC l m = true) := eqC_true.2 (by have := HTK.out; rw [List.take_length, HLEN.out, List.take_length] at this; exact this)
        go_wp2_with fail
        go_ret
        exact ⟨by rw [HE.out]; rfl, hB⟩
  · have q0 : ((l.length : Int) != (m.length : Int)) = true := by simp; omega
    have HE : Hid (eqC l m = false) := eqC_false.2 (fun e => hlen (by rw [e]))
    clear hlen
    go_enter Tryd.func54, Tryd.ntmps54
    go_wp2_with fail
    go_ret
    exact ⟨by rw [HE.out]; rfl, Below.refl _ _⟩

theorem prg_ext {p q : Prg} (h1 : p.shared = q.shared) (h2 : p.tasks = q.tasks) : p = q := by cases p; cases q; simp_all
set_option maxHeartbeats 1000000 in
theorem same_any (p q : Prg) (w : World) (sa ta sa' ta' : Option Addr) (sc tc sc' tc' : Nat) (hp : PrgAt w p sa ta) (hq : PrgAt w q sa' ta') :
    Calls Tryd.prog 39 #[p.val sa sc ta tc, q.val sa' sc' ta' tc'] w fun e w' => e = .returned (.bool (eqC p q)) ∧ Below w.heap.size w w' := by
  have HP := Lib.hid hp
  have HQ := Lib.hid hq
  clear hp hq
  go_enter Tryd.func39, Tryd.ntmps39
  go_wp2_with fail
  refine (equalArrs_any p.shared q.shared _ sa sa' sc sc' (HP.out.1.below two_alloc) (HQ.out.1.below two_alloc)).mono ?_
  rintro e w1 ⟨rfl, hB1⟩
  have HB1 := Lib.hid (two_alloc.trans (hB1.mono two_alloc.size))
  have x1 : w1.cell? ⟨w.heap.size, 1, none⟩ = some (.slice ta p.tasks.length tc) := cell_below hB1 (by simp [World.cell?_alloc_lt])
  have y1 : w1.cell? ⟨w.heap.size + 1, 1, none⟩ = some (.slice ta' q.tasks.length tc') := cell_below hB1 (by simp)
  clear hB1
  cases hv : eqC p.shared q.shared with
  | false =>
    have HE : Hid (eqC p q = false) := eqC_false.2 (fun e => eqC_false.1 hv (by rw [e]))
    clear hv
    go_wp2_with fail
    go_ret
    exact ⟨by rw [HE.out]; rfl, HB1.out⟩
  | true =>
    have HV := Lib.hid (eqC_true.1 hv)
    clear hv
    go_wp2_with fail
    refine (equalFuncTasks_any p.tasks q.tasks _ ta ta' tc tc' (HP.out.2.below HB1.out) (HQ.out.2.below HB1.out)).mono ?_
    rintro e w2 ⟨rfl, hB2⟩
    have HB2 := Lib.hid (HB1.out.trans (hB2.mono HB1.out.size))
    have HE : Hid (eqC p q = eqC p.tasks q.tasks) := by
      show _ = _
      cases hb : eqC p.tasks q.tasks with
      | true => exact eqC_true.2 (prg_ext HV.out (eqC_true.1 hb))
      | false => exact eqC_false.2 (fun e => eqC_false.1 hb (by rw [e]))
    clear hB2
    go_wp2_with fail
    go_ret
    exact ⟨by rw [HE.out]; rfl, HB2.out⟩
end Go.Proofs.YtfkegjdgbnkicaaDoor
