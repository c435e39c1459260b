/-
  Contract: equal (package ontimelaw17), where the outcomes are alike.
-/
import Derived.Test.YtjdfcpjlmfaaaaaIrLawFns
namespace Go.Proofs.Ytjdfcpjlmfaaaaa
set_option linter.unusedVariables false
set_option linter.unusedSimpArgs false
open Go.RowKit
set_option maxRecDepth 100000
set_option maxHeartbeats 8000000

theorem below_dN (W : World) (m : Nat) : Below W.heap.size W (W.drewN m) := ⟨rfl, rfl, rfl, Nat.le_refl _, fun _ _ => rfl⟩
theorem equal_eq (o : Oc) (v1 v2 : Value) (w : World) (h1 : OcAt w v1 o) (h2 : OcAt w v2 o) :
    Calls Try.prog 22 #[v1, v2] w fun e w' => e = .returned (.bool true) ∧ Below w.heap.size w w' := by
  obtain ⟨aa, oa, ua, ac, ocp, uc, rfl, ha, ho, hu, _⟩ := h1
  obtain ⟨aa', oa', ua', ac', ocp', uc', rfl, ha', ho', hu', _⟩ := h2
  obtain ⟨W, hW⟩ : ∃ W : World, (w.alloc (.cells #[.slice aa o.arrays.length ac, .slice oa o.objects.length ocp, .slice ua o.out.length uc, .int .i64 (o.read : Nat), .int .i64 (o.steps : Nat), .int .i64 o.err] 41)).alloc (.cells #[.slice aa' o.arrays.length ac', .slice oa' o.objects.length ocp', .slice ua' o.out.length uc', .int .i64 (o.read : Nat), .int .i64 (o.steps : Nat), .int .i64 o.err] 41) = W := ⟨_, rfl⟩
  have hB : Below w.heap.size w W := by rw [← hW]; exact ((Below.refl _ _).alloc (Nat.le_refl _) _).alloc (by simp) _
  have HB := Lib.hid hB
  have HA := Lib.hid (ha.below hB)
  have HO := Lib.hid (ho.below hB)
  have HU := Lib.hid (hu.below hB)
  have HA' := Lib.hid (ha'.below hB)
  have HO' := Lib.hid (ho'.below hB)
  have HU' := Lib.hid (hu'.below hB)
  have p0 : W.cell? ⟨w.heap.size, 0, none⟩ = some (.slice aa o.arrays.length ac) := by rw [← hW]; simp [World.cell?_alloc_past]
  have p1 : W.cell? ⟨w.heap.size, 1, none⟩ = some (.slice oa o.objects.length ocp) := by rw [← hW]; simp [World.cell?_alloc_past]
  have p2 : W.cell? ⟨w.heap.size, 2, none⟩ = some (.slice ua o.out.length uc) := by rw [← hW]; simp [World.cell?_alloc_past]
  have p3 : W.cell? ⟨w.heap.size, 3, none⟩ = some (.int .i64 (o.read : Nat)) := by rw [← hW]; simp [World.cell?_alloc_past]
  have p4 : W.cell? ⟨w.heap.size, 4, none⟩ = some (.int .i64 (o.steps : Nat)) := by rw [← hW]; simp [World.cell?_alloc_past]
  have p5 : W.cell? ⟨w.heap.size, 5, none⟩ = some (.int .i64 o.err) := by rw [← hW]; simp [World.cell?_alloc_past]
  have q0 : W.cell? ⟨w.heap.size + 1, 0, none⟩ = some (.slice aa' o.arrays.length ac') := by rw [← hW]; simp
  have q1 : W.cell? ⟨w.heap.size + 1, 1, none⟩ = some (.slice oa' o.objects.length ocp') := by rw [← hW]; simp
  have q2 : W.cell? ⟨w.heap.size + 1, 2, none⟩ = some (.slice ua' o.out.length uc') := by rw [← hW]; simp
  have q3 : W.cell? ⟨w.heap.size + 1, 3, none⟩ = some (.int .i64 (o.read : Nat)) := by rw [← hW]; simp
  have q4 : W.cell? ⟨w.heap.size + 1, 4, none⟩ = some (.int .i64 (o.steps : Nat)) := by rw [← hW]; simp
  have q5 : W.cell? ⟨w.heap.size + 1, 5, none⟩ = some (.int .i64 o.err) := by rw [← hW]; simp
  clear ha ho hu ha' ho' hu' hB
  go_enter Try.func22, Try.ntmps22
  go_wp2_with (first
    | (go_at_call 20; with_reducible refine (conts_eq o.arrays aa aa' ac ac' W HA.out HA'.out).mono ?_; rintro e w' ⟨rfl, m, rfl⟩)
    | (go_at_call 20; with_reducible refine (conts_eq o.objects oa oa' ocp ocp' (World.drewN W _) (HO.out.below (below_dN _ _)) (HO'.out.below (below_dN _ _))).mono ?_; rintro e w' ⟨rfl, m, rfl⟩)
    | (go_at_call 23; refine (outputs_eq o.out ua ua' uc uc' (World.drewN W _) (HU.out.below (below_dN _ _)) (HU'.out.below (below_dN _ _))).mono ?_; rintro e w' ⟨rfl, m, rfl⟩))
  go_ret
  exact ⟨rfl, HB.out.trans ((below_dN _ _).mono HB.out.size)⟩
end Go.Proofs.Ytjdfcpjlmfaaaaa
