/-
  Contract: when trees are equal (package ontimeref12).
-/
import Derived.Test.YtfkegjdgbnkicaaDoorAstEqual
import Derived.StillTailTactics
import Derived.Deep.RegionWith
namespace Go.Proofs.YtfkegjdgbnkicaaDoor
open Go.RowKit
set_option maxRecDepth 100000

theorem ofBB {w wr : World} {o o' : Obj} (h : Below (w.heap.size + 1 + 1) ((w.alloc o).alloc o') wr) : Below w.heap.size w wr := two_alloc.trans (h.mono (by omega))
theorem bb_size {w wr : World} {o o' : Obj} (h : Below (w.heap.size + 1 + 1) ((w.alloc o).alloc o') wr) : w.heap.size + 1 + 1 ≤ wr.heap.size := by have := h.size; simpa using this
theorem bb_cell {w wr : World} {c : Array Value} {t : TypeId} {o' : Obj} (h : Below (w.heap.size + 1 + 1) ((w.alloc (.cells c t)).alloc o') wr) (i : Nat) : wr.cell? ⟨w.heap.size, i, none⟩ = c[i]? :=
  (h.cell (p := ⟨w.heap.size, i, none⟩) (by show w.heap.size < _; omega)).trans ((World.cell?_alloc_lt _ _ _ (by simp)).trans (World.cell?_alloc_new w c t i))
theorem bb_cell' {w wr : World} {c : Array Value} {t : TypeId} {o : Obj} (h : Below (w.heap.size + 1 + 1) ((w.alloc o).alloc (.cells c t)) wr) (i : Nat) : wr.cell? ⟨w.heap.size + 1, i, none⟩ = c[i]? := by
  refine (h.cell (p := ⟨w.heap.size + 1, i, none⟩) (by show w.heap.size + 1 < _; omega)).trans ?_
  have := World.cell?_alloc_new (w.alloc o) c t i
  rw [World.size_alloc] at this
  exact this

theorem below_cell {w w' : World} {b o : Nat} {v : Value} (hb : Below w.heap.size w w') (h : w.cell? ⟨b, o, none⟩ = some v) : w'.cell? ⟨b, o, none⟩ = some v :=
  (hb.cell (p := ⟨b, o, none⟩) (World.block_lt_of_cell? w _ h)).trans h

set_option maxHeartbeats 2000000 in
theorem refEqual_any : ∀ (t u : Tree) (w : World) (a a' : Option Addr) (c c' : Nat), Rep w t a → Rep w u a' →
    Calls Tryd.prog 29 #[t.val a c, u.val a' c'] w fun e w' => e = .returned (.bool (eqT t u)) ∧ Below w.heap.size w w' := by
  intro t
  induction t using Tree.ind with
  | h t ih =>
    intro u w a a' c c' hr hr'
    have IH := Lib.hid ih
    have HR := Lib.hid hr
    have HR' := Lib.hid hr'
    have hl := hr.fits.len
    have hl' := hr'.fits.len
    clear ih hr hr'
    go_enter Tryd.func29, Tryd.ntmps29
    go_wp2_with fail
    · have h3 : ¬ t.kind = u.kind := by assumption
      have HE : Hid (eqT t u = false) := eqT_false.2 (fun e => h3 (by rw [e]))
      go_ret
      exact ⟨by rw [HE.out]; rfl, two_alloc⟩
    · have h3 : ¬ t.num = u.num := by assumption
      have HE : Hid (eqT t u = false) := eqT_false.2 (fun e => h3 (by rw [e]))
      go_ret
      exact ⟨by rw [HE.out]; rfl, two_alloc⟩
    · have h3 : ¬ t.name.toList = u.name.toList := by assumption
      have HE : Hid (eqT t u = false) := eqT_false.2 (fun e => h3 (by rw [e]))
      go_ret
      exact ⟨by rw [HE.out]; rfl, two_alloc⟩
    · have h3 : ((t.len : Int) != (u.len : Int)) = true := by assumption
      have HE : Hid (eqT t u = false) := eqT_false.2 (fun e => by rw [e] at h3; simp at h3)
      go_ret
      exact ⟨by rw [HE.out]; rfl, two_alloc⟩
    · rename t.kind = u.kind => h1
      rename t.num = u.num => h2
      rename t.name.toList = u.name.toList => h3
      rename ((t.len : Int) != (u.len : Int)) = false => h4
      have h4' : t.len = u.len := by have : (t.len : Int) = u.len := by simpa using h4
                                     omega
      have HE : Hid (eqT t u = Tree.allTo (fun i => eqT (t.kid i) (u.kid i)) t.len) := by show _ = _; rw [eqT_all h1 h2 h3, decide_eq_true h4', Bool.true_and]
      have hle : t.len ≤ u.len := by omega
      clear h1 h2 h3 h4 h4'
      go_loopw [5] (fun i wr => ∃ j : Nat, j ≤ t.len ∧ i = .int .i64 j ∧ Tree.allTo (fun i => eqT (t.kid i) (u.kid i)) j = true ∧ Below (w.heap.size + 1 + 1) ((w.alloc (.cells #[.int .u8 u.kind, .int .i64 u.num, .string t.name, .slice a t.len c] 24)).alloc (.cells #[.int .u8 u.kind, .int .i64 u.num, .string u.name, .slice a' u.len c'] 24)) wr) (fun i _ => t.len - (intOf i).toNat)
      case atStart => exact ⟨0, Nat.zero_le _, rfl, rfl, Below.refl _ _⟩
      case round =>
        obtain ⟨j, hj, rfl, hall, hBx⟩ := hrel
        have HA := Lib.hid hall
        clear hall
        have hB := ofBB hBx
        have hsz := bb_size hBx
        have bx3 := bb_cell hBx 3
        have bx3' := bb_cell' hBx 3
        simp only [List.getElem?_toArray, List.getElem?_cons_zero, List.getElem?_cons_succ] at bx3 bx3'
        by_cases hlt : j < t.len
        · have hlu : j < u.len := by omega
          rcases HR.out.kids with h0 | ⟨b, off, rfl, hc⟩
          · omega
          rcases HR'.out.kids with h0 | ⟨b', off', rfl, hc'⟩
          · omega
          obtain ⟨ai, ci, hn, hr⟩ := hc j hlt
          obtain ⟨ai', ci', hn', hr'⟩ := hc' j hlu
          obtain ⟨f0, f1, f2, f3⟩ := hn.below hB hn.lt
          obtain ⟨f0', f1', f2', f3'⟩ := hn'.below hB hn'.lt
          have HRK := Lib.hid (hr.below hB.drew)
          have HRK' := Lib.hid (hr'.below hB.drew)
          have hj0 : (0 : Int) ≤ (j : Int) := by omega
          have hj1 : (j : Int) < (t.len : Int) := by omega
          have hj2 : (j : Int) < (u.len : Int) := by omega
          clear hc hn hc' hn' hr hr'
          go_wp2_with fail
          go_region_held3 (fun w' => w'.cell? ⟨w.heap.size, 3, none⟩ = some (.slice (some ⟨b, off, none⟩) t.len c) ∧ w'.cell? ⟨w.heap.size + 1, 3, none⟩ = some (.slice (some ⟨b', off', none⟩) u.len c') ∧
              w'.cell? ⟨b, off + j * 4, none⟩ = some (.int .u8 (t.kid j).kind) ∧ w'.cell? ⟨b, off + j * 4 + 1, none⟩ = some (.int .i64 (t.kid j).num) ∧ w'.cell? ⟨b, off + j * 4 + 2, none⟩ = some (.string (t.kid j).name) ∧ w'.cell? ⟨b, off + j * 4 + 3, none⟩ = some (.slice ai (t.kid j).len ci) ∧
              w'.cell? ⟨b', off' + j * 4, none⟩ = some (.int .u8 (u.kid j).kind) ∧ w'.cell? ⟨b', off' + j * 4 + 1, none⟩ = some (.int .i64 (u.kid j).num) ∧ w'.cell? ⟨b', off' + j * 4 + 2, none⟩ = some (.string (u.kid j).name) ∧ w'.cell? ⟨b', off' + j * 4 + 3, none⟩ = some (.slice ai' (u.kid j).len ci'))
            (first | go_keep | (go_split_ands; exact ⟨below_cell hB3 (by assumption), below_cell hB3 (by assumption), below_cell hB3 (by assumption), below_cell hB3 (by assumption), below_cell hB3 (by assumption), below_cell hB3 (by assumption), below_cell hB3 (by assumption), below_cell hB3 (by assumption), below_cell hB3 (by assumption), below_cell hB3 (by assumption)⟩))
            (first | (go_at_call 29; refine (IH.out j hlt (u.kid j) _ ai ai' ci ci' HRK.out HRK'.out).mono ?_; rintro e w3 ⟨rfl, hB3⟩))
          have hB4 := hBx.drew.trans (hB3.mono hsz)
          have hB5 := ofBB hB4
          clear hB3
          cases hv : eqT (t.kid j) (u.kid j) with
          | true =>
            have HN : Hid (Tree.allTo (fun i => eqT (t.kid i) (u.kid i)) (j + 1) = true) := by show _ = _; rw [Tree.allTo_succ, HA.out, hv]; rfl
            go_wp2_with fail
            go_roundw
            case rel => exact ⟨j + 1, by omega, by go_num, HN.out, hB4⟩
            case measure => simp [intOf]; omega
          | false =>
            have HN : Hid (Tree.allTo (fun i => eqT (t.kid i) (u.kid i)) t.len = false) := Tree.allTo_false hlt hv
            go_wp2_with fail
            go_ret
            exact ⟨by rw [HE.out, HN.out]; rfl, hB5⟩
        · obtain rfl : j = t.len := by omega
          go_wp2_with fail
          go_ret
          exact ⟨by rw [HE.out, HA.out]; rfl, hB⟩
end Go.Proofs.YtfkegjdgbnkicaaDoor
