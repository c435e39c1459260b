/-
  Contracts: when trees are equal (packages ast and ontimeref12).
-/
import Derived.Test.YtfkegjdgbnkicaaDoorAstSize
import Derived.Deep.RegionHeld3
import Derived.Outline
namespace Go.Proofs.YtfkegjdgbnkicaaDoor
open Go.RowKit
set_option maxRecDepth 100000

/-- equal trees -/
noncomputable def eqT (a b : Tree) : Bool := @decide (a = b) (Classical.propDecidable _)
theorem eqT_true {a b : Tree} : eqT a b = true ↔ a = b := by unfold eqT; exact @decide_eq_true_iff _ (Classical.propDecidable _)
theorem eqT_false {a b : Tree} : eqT a b = false ↔ a ≠ b := by unfold eqT; exact @decide_eq_false_iff_not _ (Classical.propDecidable _)
theorem eqT_self (a : Tree) : eqT a a = true := eqT_true.2 rfl
theorem eqT_comm (a b : Tree) : eqT a b = eqT b a := by
  cases h : eqT a b with
  | true => exact (eqT_true.2 (eqT_true.1 h).symm).symm
  | false => exact (eqT_false.2 (fun e => eqT_false.1 h e.symm)).symm
/-- whether the first children are equal -/
theorem eqT_kids {a b : Tree} (h1 : a.kind = b.kind) (h2 : a.num = b.num) (h3 : a.name = b.name) (h4 : a.len = b.len) : eqT a b = Tree.allTo (fun i => eqT (a.kid i) (b.kid i)) a.len := by
  cases h : Tree.allTo (fun i => eqT (a.kid i) (b.kid i)) a.len with
  | true => exact eqT_true.2 (Tree.eq_of h1 h2 h3 h4 (fun i hi => eqT_true.1 (Tree.allTo_iff.1 h i hi)))
  | false =>
    refine eqT_false.2 (fun e => ?_)
    subst e
    rw [Tree.allTo_iff.2 (fun i _ => eqT_self _)] at h
    cases h

/-- two boxes -/
abbrev wBB (w : World) (t u : Tree) (a a' : Option Addr) (c c' : Nat) : World := (w.alloc (.cells #[.int .u8 t.kind, .int .i64 t.num, .string t.name, .slice a t.len c] 24)).alloc (.cells #[.int .u8 u.kind, .int .i64 u.num, .string u.name, .slice a' u.len c'] 24)

/-- what EqualFunc needs of Equal -/
def EqualAt (t u : Tree) : Prop := ∀ (w : World) (a a' : Option Addr) (c c' : Nat), Rep w t a → Rep w u a' →
  Calls Tryd.prog 32 #[t.val a c, u.val a' c'] w fun e w' => e = .returned (.bool (eqT t u)) ∧ Below w.heap.size w w'

set_option maxHeartbeats 1000000 in
theorem equalFunc_of {t u : Tree} (H : ∀ i, i < t.len → ∀ u, EqualAt (t.kid i) u) (w : World) (a a' : Option Addr) (c c' : Nat) (hr : Rep w t a) (hr' : Rep w u a') :
    Calls Tryd.prog 48 #[.slice a t.len c, .slice a' u.len c', .func (.func 32) #[] #[]] w fun e w' => e = .returned (.bool (decide (t.len = u.len) && Tree.allTo (fun i => eqT (t.kid i) (u.kid i)) t.len)) ∧ Below w.heap.size w w' := by
  have HH := Lib.hid H
  clear H
  have hl := hr.fits.len
  have hl' := hr'.fits.len
  have HK := Lib.hid hr.kids
  have HK' := Lib.hid hr'.kids
  clear hr hr'
  by_cases hlen : t.len = u.len
  · have q0 : ((t.len : Int) != (u.len : Int)) = false := by simp [hlen]
    have HL := Lib.hid hlen
    have hle : t.len ≤ u.len := by omega
    have hle' : u.len ≤ t.len := by omega
    clear hlen
    go_enter Tryd.func48, Tryd.ntmps48
    go_wp2_with fail
    go_loopw [17] (fun i wr => ∃ j : Nat, j ≤ t.len ∧ i = .int .i64 j ∧ Tree.allTo (fun i => eqT (t.kid i) (u.kid i)) j = true ∧ Below w.heap.size w wr) (fun i _ => t.len - (intOf i).toNat)
    case atStart => exact ⟨0, Nat.zero_le _, rfl, rfl, Below.refl _ _⟩
    case round =>
      obtain ⟨j, hj, rfl, hall, hB⟩ := hrel
      have HA := Lib.hid hall
      clear hall
      have hsz := hB.size
      by_cases hlt : j < t.len
      · have hlu : j < u.len := by omega
        rcases HK.out with h0 | ⟨b, off, rfl, hc⟩
        · omega
        rcases HK'.out with h0 | ⟨b', off', rfl, hc'⟩
        · omega
        obtain ⟨ai, ci, hn, hr⟩ := hc j hlt
        obtain ⟨ai', ci', hn', hr'⟩ := hc' j hlu
        have hbl : b < wr.heap.size := Nat.lt_of_lt_of_le hn.lt hsz
        have hbl' : b' < wr.heap.size := Nat.lt_of_lt_of_le hn'.lt hsz
        obtain ⟨f0, f1, f2, f3⟩ := hn.below hB hn.lt
        obtain ⟨f0', f1', f2', f3'⟩ := hn'.below hB hn'.lt
        clear hc hn hc' hn'
        go_wp2_with fail
        have HBB : Hid (Below w.heap.size w (wBB wr (t.kid j) (u.kid j) ai ai' ci ci')) := (hB.alloc (by omega) _).alloc (by simp; omega) _
        refine (HH.out j hlt _ _ ai ai' ci ci' (hr.below HBB.out) (hr'.below HBB.out)).mono ?_
        rintro e w1 ⟨rfl, hB1⟩
        have hB2 := HBB.out.trans (hB1.mono HBB.out.size)
        clear hB1 hr f0 f1 f2 f3 hr' f0' f1' f2' f3'
        cases hv : eqT (t.kid j) (u.kid j) with
        | true =>
          have HN : Hid (Tree.allTo (fun i => eqT (t.kid i) (u.kid i)) (j + 1) = true) := by show _ = _; rw [Tree.allTo_succ, HA.out, hv]; rfl
          go_wp2_with fail
          go_roundw
          case rel => exact ⟨j + 1, by omega, by go_num, HN.out, hB2⟩
          case measure => simp [intOf]; omega
        | false =>
          have HN : Hid (Tree.allTo (fun i => eqT (t.kid i) (u.kid i)) t.len = false) := Tree.allTo_false hlt hv
          go_wp2_with fail
          go_ret
          exact ⟨by rw [HN.out]; simp, hB2⟩
      · obtain rfl : j = t.len := by omega
        go_wp2_with fail
        go_ret
        exact ⟨by rw [HA.out, HL.out]; simp, hB⟩
  · have q0 : ((t.len : Int) != (u.len : Int)) = true := by simp; omega
    have HL := Lib.hid hlen
    clear hlen
    go_enter Tryd.func48, Tryd.ntmps48
    go_wp2_with fail
    go_ret
    exact ⟨by simp [HL.out], Below.refl _ _⟩

theorem two_alloc {w : World} {o o' : Obj} : Below w.heap.size w ((w.alloc o).alloc o') := ((Below.refl _ _).alloc (Nat.le_refl _) _).alloc (by simp) _
theorem eqT_all {a b : Tree} (h1 : a.kind = b.kind) (h2 : a.num = b.num) (h3 : a.name.toList = b.name.toList) : eqT a b = (decide (a.len = b.len) && Tree.allTo (fun i => eqT (a.kid i) (b.kid i)) a.len) := by
  have h3' : a.name = b.name := ByteArray.ext (Array.toList_inj.1 (by rw [ByteArray.toList_eq, ByteArray.toList_eq] at h3; exact h3))
  by_cases h4 : a.len = b.len
  · rw [eqT_kids h1 h2 h3' h4, decide_eq_true h4, Bool.true_and]
  · rw [decide_eq_false h4, Bool.false_and]
    exact eqT_false.2 (fun e => h4 (by rw [e]))

set_option maxHeartbeats 2000000 in
theorem equal_any : ∀ t u : Tree, EqualAt t u := by
  intro t
  induction t using Tree.ind with
  | h t ih =>
    intro u w a a' c c' hr hr'
    have IH := Lib.hid ih
    have HR := Lib.hid hr
    have HR' := Lib.hid hr'
    clear ih hr hr'
    go_enter Tryd.func32, Tryd.ntmps32
    go_wp2_with fail
    · have h1 : t.kind = u.kind := by assumption
      have h2 : t.num = u.num := by assumption
      have h3 : t.name.toList = u.name.toList := by assumption
      have HE := Lib.hid (eqT_all h1 h2 h3)
      refine (equalFunc_of IH.out _ a a' c c' (HR.out.below two_alloc) (HR'.out.below two_alloc)).mono ?_
      rintro e w1 ⟨rfl, hB1⟩
      have hB2 := two_alloc.trans (hB1.mono two_alloc.size)
      clear hB1
      go_wp2_with fail
      go_ret
      exact ⟨by rw [HE.out]; rfl, hB2⟩
    · have h3 : ¬ t.name.toList = u.name.toList := by assumption
      have HE : Hid (eqT t u = false) := eqT_false.2 (fun e => h3 (by rw [e]))
      go_ret
      exact ⟨by rw [HE.out]; rfl, two_alloc⟩
    · have h3 : ¬ t.num = u.num := by assumption
      have HE : Hid (eqT t u = false) := eqT_false.2 (fun e => h3 (by rw [e]))
      go_ret
      exact ⟨by rw [HE.out]; rfl, two_alloc⟩
    · have h3 : ¬ t.kind = u.kind := by assumption
      have HE : Hid (eqT t u = false) := eqT_false.2 (fun e => h3 (by rw [e]))
      go_ret
      exact ⟨by rw [HE.out]; rfl, two_alloc⟩
end Go.Proofs.YtfkegjdgbnkicaaDoor
