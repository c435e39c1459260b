/-
  Contracts: fault, with (package check); maps.Clone of a set of names; slices.Clone of ints.
-/
import Derived.Test.YtnegdmhmhdojbaaDoorChk
import Derived.Test.YtnegdmhmhdojbaaDoorProg
import Derived.Test.YtnegdmhmhdojbaaDoorMemSet
import Derived.Lib.Hide
import Derived.BigGuardPart
import Derived.Outline
namespace Go.Proofs.YtnegdmhmhdojbaaDoor
set_option linter.unusedVariables false
set_option linter.unusedSimpArgs false
open Go.RowKit
set_option maxRecDepth 100000
set_option maxHeartbeats 8000000

abbrev SSet := StrSet Tryd.prog 9 4
theorem zeroB (w : World) : (zeroValue 4).run Tryd.prog w = .ok (.bool false) w := by kernel_rfl
theorem sset_get {w : World} {b n : Nat} {S : List ByteArray} (h : SSet w b n S) {s : ByteArray} (hs : s.size ≤ maxLen) : (Instr.lookup 72 (.map (some b)) (.string s) false).run Tryd.prog w = .ok (.bool (memB S s)) w :=
  h.run Tryd.underlying9 Tryd.underlying72 Tryd.underlying4 (zeroB w) hs
/-- the sets of a call's names, wherever they lie -/
structure NmsAt (w : World) (sb cb ab : Nat) (d : Nms) : Prop where
  shared : ∃ n, SSet w sb n d.shared
  scalars : ∃ n, SSet w cb n d.scalars
  arrays : ∃ n, SSet w ab n d.arrays
theorem NmsAt.below {w w' : World} {sb cb ab : Nat} {d : Nms} (h : NmsAt w sb cb ab d) (hB : Below w.heap.size w w') : NmsAt w' sb cb ab d :=
  ⟨h.shared.imp fun _ h => h.below hB, h.scalars.imp fun _ h => h.below hB, h.arrays.imp fun _ h => h.below hB⟩
theorem fault_any (d : Nms) (t : Tree) (place : Bool) (loops locks : List ByteArray) (sb cb ab lb kb nl nk : Nat) (a : Option Addr) (c : Nat) (w : World) (hd : NmsAt w sb cb ab d) (hl : SSet w lb nl loops) (hk : SSet w kb nk locks) (hs : t.name.size ≤ maxLen) :
    Calls Tryd.prog 62 #[.agg #[.map (some sb), .map (some cb), .map (some ab)], t.val a c, .bool place, .agg #[.map (some lb), .map (some kb)]] w fun e w' => e = .returned (.int .i64 (faultN d t.kind t.name place loops locks)) ∧ Below w.heap.size w w' := by
  obtain ⟨⟨ns, h1⟩, ⟨nc, h2⟩, ⟨na, h3⟩⟩ := hd
  obtain ⟨W, hW⟩ : ∃ W : World, ((w.alloc (.cells #[.map (some sb), .map (some cb), .map (some ab)] 87)).alloc (.cells #[.int .u8 t.kind, .int .i64 t.num, .string t.name, .slice a t.len c] 43)).alloc (.cells #[.map (some lb), .map (some kb)] 91) = W := ⟨_, rfl⟩
  have HBW : Hid (Below w.heap.size w W) := by show Below _ _ _; rw [← hW]; exact (((Below.refl _ _).alloc (Nat.le_refl _) _).alloc (by simp) _).alloc (by simp; omega) _
  have g1 := sset_get (h1.below HBW.out) hs
  have g2 := sset_get (h2.below HBW.out) hs
  have g3 := sset_get (h3.below HBW.out) hs
  have g4 := sset_get (hl.below HBW.out) hs
  have g5 := sset_get (hk.below HBW.out) hs
  obtain ⟨m, gl, hm, hmi⟩ := (hk.below HBW.out).len Tryd.underlying72 3
  have HMI := Lib.hid hmi
  obtain ⟨q0, q1, q2, _⟩ := mem_three w (.cells #[.map (some sb), .map (some cb), .map (some ab)] 87) (.cells #[.int .u8 t.kind, .int .i64 t.num, .string t.name, .slice a t.len c] 43) (.cells #[.map (some lb), .map (some kb)] 91)
  rw [hW] at q0 q1 q2
  have d0 : W.cell? ⟨w.heap.size, 0, none⟩ = some (.map (some sb)) := mem_cell q0 0
  have d1 : W.cell? ⟨w.heap.size, 1, none⟩ = some (.map (some cb)) := mem_cell q0 1
  have d2 : W.cell? ⟨w.heap.size, 2, none⟩ = some (.map (some ab)) := mem_cell q0 2
  have n0 : W.cell? ⟨w.heap.size + 1, 0, none⟩ = some (.int .u8 t.kind) := mem_cell q1 0
  have n2 : W.cell? ⟨w.heap.size + 1, 2, none⟩ = some (.string t.name) := mem_cell q1 2
  have s0 : W.cell? ⟨w.heap.size + 1 + 1, 0, none⟩ = some (.map (some lb)) := mem_cell q2 0
  have s1 : W.cell? ⟨w.heap.size + 1 + 1, 1, none⟩ = some (.map (some kb)) := mem_cell q2 1
  clear q0 q1 q2
  clear h1 h2 h3 hl hk hmi
  obtain ⟨b1, hb1⟩ : ∃ b, memB d.shared t.name = b := ⟨_, rfl⟩
  obtain ⟨b2, hb2⟩ : ∃ b, memB d.scalars t.name = b := ⟨_, rfl⟩
  obtain ⟨b3, hb3⟩ : ∃ b, memB d.arrays t.name = b := ⟨_, rfl⟩
  obtain ⟨b4, hb4⟩ : ∃ b, memB loops t.name = b := ⟨_, rfl⟩
  obtain ⟨b5, hb5⟩ : ∃ b, memB locks t.name = b := ⟨_, rfl⟩
  rw [hb1] at g1
  rw [hb2] at g2
  rw [hb3] at g3
  rw [hb4] at g4
  rw [hb5] at g5
  obtain ⟨r, hr⟩ : ∃ r, faultN d t.kind t.name place loops locks = r := ⟨_, rfl⟩
  have HR := Lib.hid hr
  unfold faultN at hr
  rw [hb1, hb2, hb3, hb4, hb5] at hr
  have HX := Lib.hid hr
  clear hb1 hb2 hb3 hb4 hb5 hr
  rw [HR.out]
  have FIN : ∀ x : Int, x = r → (Ending.returned (.int .i64 x) = Ending.returned (.int .i64 r) ∧ Below w.heap.size w W) := fun x hx => ⟨by rw [hx], HBW.out⟩
  have HFIN := Lib.hid FIN
  clear FIN
  by_cases k2 : t.kind = 2
  · have hx := HX.out
    rw [if_pos k2] at hx
    have HX2 := Lib.hid hx
    clear hx HX
    rw [k2] at n0
    clear k2
    cases place <;> cases b4 <;> cases b2 <;> cases b3 <;> cases b1
    all_goals
      go_enter Tryd.func62, Tryd.ntmps62
      go_wp2_with fail
      go_ret
      exact HFIN.out _ (by simpa using HX2.out)
  have k2' : (t.kind == 2) = false := by simpa using k2
  by_cases k3 : t.kind = 3
  · have hx := HX.out
    rw [if_neg k2, if_pos k3] at hx
    have HX2 := Lib.hid hx
    clear hx HX k2'
    rw [k3] at n0
    clear k3 k2
    cases b3 <;> cases b1 <;> cases b5 <;> cases b2 <;> cases b4
    all_goals
      go_enter Tryd.func62, Tryd.ntmps62
      go_wp2_with fail
      go_ret
      exact HFIN.out _ (by simpa using HX2.out)
  have k3' : (t.kind == 3) = false := by simpa using k3
  by_cases k4 : t.kind = 42
  · have hx := HX.out
    rw [if_neg k2, if_neg k3, if_pos k4] at hx
    have HX2 := Lib.hid hx
    clear hx HX k2' k3'
    rw [k4] at n0
    clear k4 k3 k2
    cases b2 <;> cases b4 <;> cases b3 <;> cases b1
    all_goals
      go_enter Tryd.func62, Tryd.ntmps62
      go_wp2_with fail
      go_ret
      exact HFIN.out _ (by simpa using HX2.out)
  have k4' : (t.kind == 42) = false := by simpa using k4
  by_cases k6 : t.kind = 46
  · have hx := HX.out
    rw [if_neg k2, if_neg k3, if_neg k4, if_pos k6] at hx
    have HX2 := Lib.hid hx
    clear hx HX k2' k3' k4'
    rw [k6] at n0
    clear k6 k4 k3 k2
    cases b1
    · go_enter Tryd.func62, Tryd.ntmps62
      cases b2 <;> cases b4
      all_goals
        go_wp2_with fail
        go_ret
        exact HFIN.out _ (by simpa using HX2.out)
    · by_cases hz : m = 0
      · have hlk : locks = [] := Classical.byContradiction fun h => by have := HMI.out.2 h; omega
        have HX3 : Hid ((0 : Int) = r) := by have := HX2.out; rw [if_pos rfl, if_pos hlk] at this; exact this
        subst hz
        clear HX2
        cases b2 <;> cases b4
        all_goals
          go_enter Tryd.func62, Tryd.ntmps62
          go_wp2_with fail
          go_ret
          exact HFIN.out _ HX3.out
      · have hlk : ¬ locks = [] := HMI.out.1 (by omega)
        have hz' : (0 : Int) < (m : Int) := by omega
        have HX3 : Hid ((12 : Int) = r) := by have := HX2.out; rw [if_pos rfl, if_neg hlk] at this; exact this
        clear HX2 hz
        cases b2 <;> cases b4
        all_goals
          go_enter Tryd.func62, Tryd.ntmps62
          go_wp2_with fail
          go_ret
          exact HFIN.out _ HX3.out
  have k6' : (t.kind == 46) = false := by simpa using k6
  have HX3 : Hid ((0 : Int) = r) := by have hx := HX.out; rw [if_neg k2, if_neg k3, if_neg k4, if_neg k6] at hx; exact hx
  clear HX k2 k3 k4 k6
  cases b2 <;> cases b4
  all_goals
    go_enter Tryd.func62, Tryd.ntmps62
    go_wp2_with fail
    go_ret
    exact HFIN.out _ HX3.out
end Go.Proofs.YtnegdmhmhdojbaaDoor
