/-
  Contract: ints of two slices that hold the same numbers (package ontimelaw12).
-/
import Derived.Test.YtfkegjdgbnkicaaDoorPath
import Derived.Deep.QuietTactic
import Derived.BigQuiet
import Derived.LoopTactic
import Derived.Outline
namespace Go.Proofs.YtfkegjdgbnkicaaDoor
open Go.RowKit
set_option maxRecDepth 100000

set_option maxHeartbeats 2000000 in
theorem intsEq_any {S S' : Nat → Prop} (p : List Int) (w : World) (u v : Value) (hu : PathIn S w u p) (hv : PathIn S' w v p) (hl : p.length ≤ 1000000) :
    Calls Tryd.prog 30 #[u, v] w fun e w' => e = .returned (.bool true) ∧ Below w.heap.size w w' := by
  obtain ⟨b, o, c, rfl, _, hc, hb, hk⟩ := hu
  obtain ⟨b', o', c', rfl, _, hc', hb', hk'⟩ := hv
  have HK := Lib.hid hk
  have HK' := Lib.hid hk'
  clear hk hk'
  go_enter Tryd.func30, Tryd.ntmps30
  go_wp2_with fail
  go_loopw [13] (fun i wr => ∃ k : Nat, k ≤ p.length ∧ i = .int .i64 k ∧ Below w.heap.size w wr) (fun i _ => p.length - (intOf i).toNat)
  case atStart => exact ⟨0, Nat.zero_le _, rfl, Below.refl _ _⟩
  case round =>
    obtain ⟨k, hkl, rfl, hB⟩ := hrel
    have HB := Lib.hid hB
    by_cases hlt : k < p.length
    · have h1 : wr.cell? ⟨b, o + k, none⟩ = some (.int .i64 (p.getD k 0)) := (hB.cell (p := ⟨b, o + k, none⟩) hb).trans (HK.out k hlt)
      have h2 : wr.cell? ⟨b', o' + k, none⟩ = some (.int .i64 (p.getD k 0)) := (hB.cell (p := ⟨b', o' + k, none⟩) hb').trans (HK'.out k hlt)
      have hk0 : (0 : Int) ≤ (k : Int) := by omega
      have hk1 : (k : Int) < (p.length : Int) := by omega
      generalize p.getD k 0 = n at h1 h2
      clear hB
      go_wp2_with fail
      go_quiet (fail)
      go_wp2_with fail
      exact ⟨⟨k + 1, by omega, by go_num, ⟨HB.out.os, HB.out.tape, HB.out.output, HB.out.size, HB.out.block⟩⟩, by simp [intOf]; omega⟩
    · go_wp2_with fail
      go_ret
      exact ⟨rfl, HB.out⟩
end Go.Proofs.YtfkegjdgbnkicaaDoor
