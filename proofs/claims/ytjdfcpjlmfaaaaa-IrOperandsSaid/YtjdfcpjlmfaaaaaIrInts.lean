/-
  Contract: ints (package ontimelaw17), where both rows are alike.
-/
import Derived.Test.YtjdfcpjlmfaaaaaIrLawFns
import Derived.Test.YtjdfcpjlmfaaaaaRef17Uses
namespace Go.Proofs.Ytjdfcpjlmfaaaaa
set_option linter.unusedVariables false
set_option linter.unusedSimpArgs false
open Go.RowKit
set_option maxRecDepth 100000
set_option maxHeartbeats 8000000

/-- a slice of ints as an address -/
theorem IntsIn.form {S : Nat → Prop} {w : World} {v : Value} {p : List Int} (h : IntsIn S w v p) (hp : p.length ≤ 9223372036854775807) : ∃ a c, v = .slice a p.length c ∧ (p.length = 0 ∨ ∃ b off, a = some ⟨b, off, none⟩ ∧ ∀ (i : Nat) (x : Int), p[i]? = some x → w.cell? ⟨b, off + i, none⟩ = some (.int .i64 x)) := by
  rcases h with ⟨rfl, rfl⟩ | ⟨b, off, cap, rfl, _, _, _, hk⟩
  · exact ⟨none, 0, rfl, .inl rfl⟩
  · refine ⟨_, cap, rfl, .inr ⟨b, off, rfl, fun i x hx => ?_⟩⟩
    obtain ⟨hi, rfl⟩ := List.getElem?_eq_some_iff.1 hx
    rw [hk i hi]
    simp [hi]
theorem ints_eq {S T : Nat → Prop} (p : List Int) (va vb : Value) (w : World) (ha : IntsIn S w va p) (hb : IntsIn T w vb p) (hp : p.length ≤ 9223372036854775807) :
    Calls Try.prog 28 #[va, vb] w fun e w' => e = .returned (.bool true) ∧ ∃ m, w' = World.drewN w m := by
  obtain ⟨a, c, rfl, hla⟩ := ha.form hp
  obtain ⟨b, d, rfl, hlb⟩ := hb.form hp
  have HL := Lib.hid hla
  have HM := Lib.hid hlb
  clear ha hb hla hlb
  go_enter Try.func28, Try.ntmps28
  go_wp2_with fail
  go_loopw [5] (fun i wr => ∃ j : Nat, j ≤ p.length ∧ i = .int .i64 j ∧ ∃ m, wr = World.drewN w m) (fun i _ => p.length - (intOf i).toNat)
  case atStart => exact ⟨0, Nat.zero_le _, rfl, 0, rfl⟩
  case round =>
    obtain ⟨j, hj, rfl, hB⟩ := hrel
    have HD := Lib.hid hB
    have HB := Lib.hid (below_drew hB)
    clear hB
    have hk0 : (0 : Int) ≤ (j : Int) := by omega
    by_cases hlt : j < p.length
    · obtain ⟨r, hr⟩ : ∃ r, p[j]? = some r := ⟨_, List.getElem?_eq_getElem hlt⟩
      rcases HL.out with h0 | ⟨lb, lo, rfl, hc⟩
      · omega
      rcases HM.out with h0 | ⟨mb, mo, rfl, hd⟩
      · omega
      have f1 := cell_below HB.out (hc j r hr)
      have f2 := cell_below HB.out (hd j r hr)
      have hk1 : (j : Int) < (p.length : Int) := by omega
      clear hc hd hr
      go_wp2_with fail
      go_quiet (fail)
      generalize hV : World.drewN _ _ = V
      have HBV : Hid (∃ m, V = World.drewN w m) := drew_more HD.out hV
      clear hV
      go_wp2_with fail
      go_roundw
      case rel => exact ⟨j + 1, by omega, by go_num, HBV.out⟩
      case measure => simp [intOf]; omega
    · obtain rfl : j = p.length := by omega
      go_wp2_with fail
      go_ret
      exact ⟨rfl, HD.out⟩
theorem uses_len (i : Ins) : i.uses.length ≤ 2 := by unfold Ins.uses; split <;> (try split) <;> simp
theorem succ_len (b : Blk) : b.succ.length ≤ 2 := by unfold Blk.succ; split <;> (try split) <;> simp
end Go.Proofs.Ytjdfcpjlmfaaaaa
