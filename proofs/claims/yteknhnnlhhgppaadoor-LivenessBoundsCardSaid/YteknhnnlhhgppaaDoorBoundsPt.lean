/-
  Contract: the point's answer of LivenessBounds.
-/
import Derived.Test.YteknhnnlhhgppaaDoorLiveForm19
import Derived.Test.YteknhnnlhhgppaaDoorLiveRows
import Derived.Deep.RegionHeld3
namespace Go.Proofs.YteknhnnlhhgppaaDoor
set_option linter.unusedVariables false
set_option linter.unusedSimpArgs false
open Go.RowKit
set_option maxRecDepth 100000
set_option maxHeartbeats 16000000

theorem ints_has (l : List Int) (x : Int) (va : Value) (w : World) (ha : IntsAt w va l) (hl : l.length ≤ 1000000) :
    Calls Tryd.prog 26 #[va, .int .i64 x] w fun e w' => e = .returned (.bool (decide (x ∈ l))) ∧ Below w.heap.size w w' :=
  (contains_any' l x va w ha hl).mono fun e w' ⟨he, k, hk⟩ => ⟨he, by rw [hk]; exact ⟨rfl, rfl, rfl, Nat.le_refl _, fun _ _ => rfl⟩⟩
/-- the cells that the point's answer reads -/
def BCells (fb sb rb ub gb tb : Nat) (nm : ByteArray) (R r : Int) (aa ba ga ia oa ia' oa' : Option Addr) (an ac n bc gc ic oc ic' oc' : Nat) (u : Bool) (w : World) : Prop :=
  (w.cell? ⟨fb, 0, none⟩ = some (.string nm) ∧ w.cell? ⟨fb, 1, none⟩ = some (.int .i64 R) ∧ w.cell? ⟨fb, 2, none⟩ = some (.slice aa an ac) ∧ w.cell? ⟨fb, 3, none⟩ = some (.slice ba n bc)) ∧
  (w.cell? ⟨sb, 0, none⟩ = some (.slice ia n ic) ∧ w.cell? ⟨sb, 1, none⟩ = some (.slice oa n oc)) ∧ w.cell? ⟨rb, 0, none⟩ = some (.int .i64 r) ∧ w.cell? ⟨ub, 0, none⟩ = some (.bool u) ∧
  (w.cell? ⟨gb, 0, none⟩ = some (.string nm) ∧ w.cell? ⟨gb, 1, none⟩ = some (.int .i64 R) ∧ w.cell? ⟨gb, 2, none⟩ = some (.slice aa an ac) ∧ w.cell? ⟨gb, 3, none⟩ = some (.slice ga n gc)) ∧
  (w.cell? ⟨tb, 0, none⟩ = some (.slice ia' n ic') ∧ w.cell? ⟨tb, 1, none⟩ = some (.slice oa' n oc'))
theorem bounds1_any (fb sb rb ub gb tb : Nat) (nm : ByteArray) (R r k at_ : Int) (aa ba ga ia oa ia' oa' : Option Addr) (an ac n bc gc ic oc ic' oc' : Nat) (u : Bool) (L1 L2 : List Int) (w : World)
    (hC : ∀ w', Below w.heap.size w w' → BCells fb sb rb ub gb tb nm R r aa ba ga ia oa ia' oa' an ac n bc gc ic oc ic' oc' u w')
    (Q1 : ∀ w', Below w.heap.size w w' → Calls Tryd.prog 15 #[.agg #[.string nm, .int .i64 R, .slice aa an ac, .slice ba n bc], .agg #[.slice ia n ic, .slice oa n oc], .int .i64 k, .int .i64 at_] w' fun e w'' => ∃ v, e = .returned v ∧ IntsAt w'' v L1 ∧ Below w'.heap.size w' w'')
    (Q2 : ∀ w', Below w.heap.size w w' → Calls Tryd.prog 15 #[.agg #[.string nm, .int .i64 R, .slice aa an ac, .slice ga n gc], .agg #[.slice ia' n ic', .slice oa' n oc'], .int .i64 k, .int .i64 at_] w' fun e w'' => ∃ v, e = .returned v ∧ IntsAt w'' v L2 ∧ Below w'.heap.size w' w'')
    (h1 : L1.length ≤ 1000000) (h2 : L2.length ≤ 1000000) (hp : r ∈ L1 → u = true ∧ r ∈ L2) :
    Calls Tryd.prog 28 #[.int .i64 k, .int .i64 at_, .pointer (some ⟨fb, 0, none⟩), .pointer (some ⟨sb, 0, none⟩), .pointer (some ⟨rb, 0, none⟩), .pointer (some ⟨ub, 0, none⟩), .pointer (some ⟨gb, 0, none⟩), .pointer (some ⟨tb, 0, none⟩)] w fun e w' => e = .returned (.bool true) ∧ Below w.heap.size w w' := by
  have HK : Hid (∀ w', Below w.heap.size w w' → (w'.cell? ⟨fb, 0, none⟩ = some (.string nm) ∧ w'.cell? ⟨fb, 1, none⟩ = some (.int .i64 R) ∧ w'.cell? ⟨fb, 2, none⟩ = some (.slice aa an ac) ∧ w'.cell? ⟨fb, 3, none⟩ = some (.slice ba n bc) ∧
      w'.cell? ⟨sb, 0, none⟩ = some (.slice ia n ic) ∧ w'.cell? ⟨sb, 1, none⟩ = some (.slice oa n oc) ∧ w'.cell? ⟨rb, 0, none⟩ = some (.int .i64 r) ∧ Below w.heap.size w w')) := fun w' h => by
    obtain ⟨⟨f0, f1, f2, f3⟩, ⟨s0, s1⟩, r0, _⟩ := hC w' h
    exact ⟨f0, f1, f2, f3, s0, s1, r0, h⟩
  have HK2 : Hid (∀ w', Below w.heap.size w w' → (w'.cell? ⟨gb, 0, none⟩ = some (.string nm) ∧ w'.cell? ⟨gb, 1, none⟩ = some (.int .i64 R) ∧ w'.cell? ⟨gb, 2, none⟩ = some (.slice aa an ac) ∧ w'.cell? ⟨gb, 3, none⟩ = some (.slice ga n gc) ∧
      w'.cell? ⟨tb, 0, none⟩ = some (.slice ia' n ic') ∧ w'.cell? ⟨tb, 1, none⟩ = some (.slice oa' n oc') ∧ w'.cell? ⟨rb, 0, none⟩ = some (.int .i64 r) ∧ w'.cell? ⟨ub, 0, none⟩ = some (.bool u) ∧ Below w.heap.size w w')) := fun w' h => by
    obtain ⟨_, _, r0, u0, ⟨g0, g1, g2, g3⟩, t0, t1⟩ := hC w' h
    exact ⟨g0, g1, g2, g3, t0, t1, r0, u0, h⟩
  have HQ1 := Lib.hid Q1
  have HQ2 := Lib.hid Q2
  have HP := Lib.hid hp
  clear hC Q1 Q2 hp
  obtain ⟨f0, f1, f2, f3, s0, s1, r0, hb0⟩ := HK.out w (Below.refl _ _)
  go_enter Tryd.func28, Tryd.ntmps28
  go_wp2_with fail
  go_region_held3 (fun w' => w'.cell? ⟨fb, 0, none⟩ = some (.string nm) ∧ w'.cell? ⟨fb, 1, none⟩ = some (.int .i64 R) ∧ w'.cell? ⟨fb, 2, none⟩ = some (.slice aa an ac) ∧ w'.cell? ⟨fb, 3, none⟩ = some (.slice ba n bc) ∧
      w'.cell? ⟨sb, 0, none⟩ = some (.slice ia n ic) ∧ w'.cell? ⟨sb, 1, none⟩ = some (.slice oa n oc) ∧ w'.cell? ⟨rb, 0, none⟩ = some (.int .i64 r) ∧ Below w.heap.size w w')
    (first | (go_split_ands; exact HK.out _ (below_step (by assumption) hB9)) | (go_split_ands; exact HK.out _ (below_draw1 (by assumption))) | (go_split_ands; exact HK.out _ (by assumption)))
    (first
      | (go_at_call 15; go_split_ands; refine (HQ1.out _ (by assumption)).mono ?_; rintro e w9 ⟨v1, rfl, hi1, hB9⟩)
      | (go_at_call 26; go_split_ands; refine (ints_has L1 r _ _ (by first | exact hi1 | exact hi1.below hB9) h1).mono ?_; rintro e w9 ⟨rfl, hB9⟩))
  all_goals
    go_split_ands
    rename Below w.heap.size w _ => hBQ
    have HBQ := Lib.hid hBQ
    clear hBQ
    obtain ⟨f0, f1, f2, f3, s0, s1, r0, u0, hb0⟩ := HK2.out _ HBQ.out
    by_cases hin : r ∈ L1
    · obtain ⟨hu, hr2⟩ := HP.out hin
      have HR2 := Lib.hid hr2
      subst hu
      have e1 : decide (r ∈ L1) = true := decide_eq_true hin
      rw [e1]
      clear hin e1 hr2
      go_wp2_with fail
      go_region_held3 (fun w' => w'.cell? ⟨gb, 0, none⟩ = some (.string nm) ∧ w'.cell? ⟨gb, 1, none⟩ = some (.int .i64 R) ∧ w'.cell? ⟨gb, 2, none⟩ = some (.slice aa an ac) ∧ w'.cell? ⟨gb, 3, none⟩ = some (.slice ga n gc) ∧
          w'.cell? ⟨tb, 0, none⟩ = some (.slice ia' n ic') ∧ w'.cell? ⟨tb, 1, none⟩ = some (.slice oa' n oc') ∧ w'.cell? ⟨rb, 0, none⟩ = some (.int .i64 r) ∧ w'.cell? ⟨ub, 0, none⟩ = some (.bool true) ∧ Below w.heap.size w w')
        (first | (go_split_ands; exact HK2.out _ (below_step (by assumption) hB9)) | (go_split_ands; exact HK2.out _ (below_draw1 (by assumption))) | (go_split_ands; exact HK2.out _ (by assumption)))
        (first
          | (go_at_call 15; go_split_ands; refine (HQ2.out _ (by assumption)).mono ?_; rintro e w9 ⟨v1, rfl, hi1, hB9⟩)
          | (go_at_call 26; go_split_ands; refine (ints_has L2 r _ _ (by first | exact hi1 | exact hi1.below hB9) h2).mono ?_; rintro e w9 ⟨rfl, hB9⟩))
      all_goals
        go_split_ands
        rename Below w.heap.size w _ => hBR
        have HBR := Lib.hid hBR
        clear hBR
        have e2 : decide (r ∈ L2) = true := decide_eq_true HR2.out
        rw [e2]
        go_wp2_with fail
        go_ret
        exact ⟨rfl, HBR.out⟩
    · have e1 : decide (r ∈ L1) = false := decide_eq_false hin
      rw [e1]
      clear hin e1
      go_wp2_with fail
      go_quiet (fail)
      go_wp2_with fail
      go_ret
      exact ⟨rfl, HBQ.out.trans (by exact ⟨rfl, rfl, rfl, Nat.le_refl _, fun _ _ => rfl⟩)⟩
end Go.Proofs.YteknhnnlhhgppaaDoor
