/-
  Contracts: the closure symbol of validIns, validIns (package ir).
-/
import Derived.Test.YtjdfcpjlmfaaaaaIrClos
import Derived.Test.YtjdfcpjlmfaaaaaIrMap
import Derived.Deep.QuietTactic
import Derived.BigQuiet
namespace Go.Proofs.Ytjdfcpjlmfaaaaa
set_option linter.unusedVariables false
set_option linter.unusedSimpArgs false
open Go.RowKit
set_option maxRecDepth 100000

theorem zeroB (w : World) : (zeroValue 4).run Try.prog w = .ok (.bool false) w := by kernel_rfl
/-- the names of a function: true for arrays, false for shared objects -/
def symMap (names : List (ByteArray × Bool)) : List (ByteArray × Value) := names.map fun p => (p.1, .bool p.2)
def lookB (names : List (ByteArray × Bool)) (s : ByteArray) : Option Bool := (names.find? (fun p => decide (p.1 = s))).map (·.2)
theorem look_symMap (names : List (ByteArray × Bool)) (s : ByteArray) : look (symMap names) s = (lookB names s).map Value.bool := by
  unfold look symMap lookB
  rw [List.find?_map]
  simp only [Option.map_map]
  rfl

set_option maxHeartbeats 2000000 in
theorem symbol_any (array : Bool) (names : List (ByteArray × Bool)) (mb bm bi oi om : Nat) (sym : ByteArray) (w : World) (hs : sym.size ≤ 9223372036854775807)
    (h1 : w.cell? ⟨bm, om, none⟩ = some (.map (some mb))) (h2 : w.cell? ⟨bi, oi + 5, none⟩ = some (.string sym)) (hm : MapAt Try.prog 9 w mb (symMap names)) :
    Calls Try.prog 50 #[.bool array, .pointer (some ⟨bm, om, none⟩), .pointer (some ⟨bi, oi, none⟩)] w fun e w' => e = .returned (.bool (lookB names sym == some array)) ∧ w = w' := by
  have hrun := hm.run_ok (s := sym) (t := 82) Try.underlying9 Try.underlying82 (zeroB w) hs
  rw [look_symMap] at hrun
  cases hl : lookB names sym with
  | none =>
    rw [hl] at hrun
    have hrun' : (Instr.lookup 82 (.map (some mb)) (.string sym) true).run Try.prog w = .ok (.tuple #[.bool false, .bool false]) w := hrun
    clear hrun hl hm
    go_enter Try.func50, Try.ntmps50
    go_wp2
    go_ret
    exact ⟨rfl, rfl⟩
  | some k =>
    rw [hl] at hrun
    have hrun' : (Instr.lookup 82 (.map (some mb)) (.string sym) true).run Try.prog w = .ok (.tuple #[.bool k, .bool true]) w := hrun
    clear hrun hl hm
    go_enter Try.func50, Try.ntmps50
    go_wp2
    go_ret
    exact ⟨by cases k <;> cases array <;> rfl, rfl⟩
end Go.Proofs.Ytjdfcpjlmfaaaaa
