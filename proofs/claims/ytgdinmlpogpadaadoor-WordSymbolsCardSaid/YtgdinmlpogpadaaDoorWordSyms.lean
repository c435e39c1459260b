/-
  Contracts: the list of binary operators, symbols and levels (package word and its reference).
-/
import Derived.Test.YtgdinmlpogpadaaDoorWordAwake
import Derived.LoopTactic
import Derived.OwnWalk
import Derived.Outline
namespace Go.Proofs.YtgdinmlpogpadaaDoor
open Go.RowKit
set_option maxRecDepth 100000

/-- the first operators, as cells -/
def opsTo (j : Nat) : List Value := (List.range j).map fun (i : Nat) => Value.int .u8 (6 + (i : Int))
theorem opsTo_succ (j : Nat) : opsTo j ++ [.int .u8 (6 + (j : Int))] = opsTo (j + 1) := by
  simp [opsTo, List.range_succ]
theorem opsTo_zero : opsTo 0 = [] := rfl
theorem opsTo_len (j : Nat) : (opsTo j).length = j := by simp [opsTo]

theorem Tryd.infoU8 : (Tryd.prog.info? 5).map (fun i => (i.zero, i.size, i.bytes)) = some (some (.int .u8 0), 1, 1) := by kernel_rfl

set_option maxHeartbeats 1000000 in
theorem operators_any (w : World) : Calls Tryd.prog 6 #[] w fun e w' => ∃ v, e = .returned v ∧ w'.ownsRow w.heap.size 5 1 v 18 (opsTo 18) ∧ Below w.heap.size w w' := by
  obtain ⟨i0, hi, hz0, hz1, hz2⟩ := info_parts Tryd.infoU8
  go_enter Tryd.func6, Tryd.ntmps6
  go_wp2
  go_loopw [1, 2] (fun v op wr => ∃ j : Nat, j ≤ 18 ∧ op = .int .u8 (6 + (j : Int)) ∧ wr.ownsRow w.heap.size 5 1 v j (opsTo j) ∧ Below w.heap.size w wr) (fun _ op _ => 24 - (intOf op).toNat)
  case atStart => exact ⟨0, by omega, rfl, ⟨rfl, .inl ⟨rfl, rfl⟩⟩, Below.refl _ _⟩
  case round =>
    obtain ⟨j, hj, rfl, hown, hB⟩ := hrel
    have hsz := hB.size
    by_cases hlt : j < 18
    · go_wp2_with (at_builtin; refine wpList_append_own _ rfl _ _ 26 rfl w.heap.size 5 i0 (.int .u8 0) 1 1 Tryd.underlying26 hi hz0 hz1 hz2 rfl (by decide) _ _ _ rfl (hown.alloc _) ⟨wr.heap.size, 0, none⟩ 1 1 [.int .u8 (6 + (j : Int))] rfl rfl ?c1 ?c2 ?c3 ?c4 ?c5 ?_)
      case c1 => intro k u hu; cases k with
        | zero => simp at hu; subst hu; go_simp
        | succ k => simp at hu
      case c2 => simp [Value.oneCell']
      case c3 => unfold maxLen; omega
      case c4 => omega
      case c5 => simp; omega
      intro v' w1 hown' hgrow _
      have hB1 : Below w.heap.size w w1 := (hB.alloc hsz _).grown hgrow (by simp; omega) (by
        intro k hk
        rcases hown.2 with ⟨rfl, _⟩ | ⟨g, cap, cur, rfl, hg, _⟩
        · cases hk
        · cases hk; exact hg)
      rw [opsTo_succ] at hown'
      clear hown hB hgrow
      go_wp2
      go_roundw
      case rel => exact ⟨j + 1, by omega, by go_num, hown', hB1⟩
      case measure => simp [intOf]; omega
    · obtain rfl : j = 18 := by omega
      go_wp2
      go_ret
      exact ⟨_, rfl, hown, hB⟩

/-- symbols and levels of the kinds -/
def symTab : List ByteArray := [⟨#[]⟩, ⟨#[]⟩, ⟨#[]⟩, ⟨#[]⟩, ⟨#[45]⟩, ⟨#[33]⟩, ⟨#[43]⟩, ⟨#[45]⟩, ⟨#[42]⟩, ⟨#[47]⟩, ⟨#[37]⟩, ⟨#[38]⟩, ⟨#[124]⟩, ⟨#[94]⟩, ⟨#[60, 60]⟩, ⟨#[62, 62]⟩, ⟨#[61, 61]⟩, ⟨#[33, 61]⟩, ⟨#[60]⟩, ⟨#[60, 61]⟩, ⟨#[62]⟩, ⟨#[62, 61]⟩, ⟨#[38, 38]⟩, ⟨#[124, 124]⟩]
def lvlTab : List Int := [0, 0, 0, 0, 11, 11, 9, 9, 10, 10, 10, 5, 3, 4, 8, 8, 6, 6, 7, 7, 7, 7, 2, 1]
def symOf (k : Nat) : ByteArray := symTab.getD k ⟨#[]⟩
def lvlOf (k : Nat) : Int := lvlTab.getD k 0

def SY : Array Value := #[.string ⟨#[45]⟩, .string ⟨#[33]⟩, .string ⟨#[43]⟩, .string ⟨#[45]⟩, .string ⟨#[42]⟩, .string ⟨#[47]⟩, .string ⟨#[37]⟩, .string ⟨#[38]⟩, .string ⟨#[124]⟩, .string ⟨#[94]⟩, .string ⟨#[60, 60]⟩, .string ⟨#[62, 62]⟩, .string ⟨#[61, 61]⟩, .string ⟨#[33, 61]⟩, .string ⟨#[60]⟩, .string ⟨#[60, 61]⟩, .string ⟨#[62]⟩, .string ⟨#[62, 61]⟩, .string ⟨#[38, 38]⟩, .string ⟨#[124, 124]⟩]
def LV : Array Value := #[.int .i64 11, .int .i64 11, .int .i64 9, .int .i64 9, .int .i64 10, .int .i64 10, .int .i64 10, .int .i64 5, .int .i64 3, .int .i64 4, .int .i64 8, .int .i64 8, .int .i64 6, .int .i64 6, .int .i64 7, .int .i64 7, .int .i64 7, .int .i64 7, .int .i64 2, .int .i64 1]
theorem SY_at : ∀ k : Nat, 4 ≤ k → k ≤ 23 → SY[k - 4]? = some (.string (symOf k)) := by
  intro k h1 h2
  obtain ⟨j, rfl⟩ : ∃ j, k = j + 4 := ⟨k - 4, by omega⟩
  have hj : j < 20 := by omega
  rw [Nat.add_sub_cancel]
  have : j = 0 ∨ j = 1 ∨ j = 2 ∨ j = 3 ∨ j = 4 ∨ j = 5 ∨ j = 6 ∨ j = 7 ∨ j = 8 ∨ j = 9 ∨ j = 10 ∨ j = 11 ∨ j = 12 ∨ j = 13 ∨ j = 14 ∨ j = 15 ∨ j = 16 ∨ j = 17 ∨ j = 18 ∨ j = 19 := by omega
  rcases this with rfl | rfl | rfl | rfl | rfl | rfl | rfl | rfl | rfl | rfl | rfl | rfl | rfl | rfl | rfl | rfl | rfl | rfl | rfl | rfl <;> rfl
theorem LV_at : ∀ k : Nat, 4 ≤ k → k ≤ 23 → LV[k - 4]? = some (.int .i64 (lvlOf k)) := by
  intro k h1 h2
  obtain ⟨j, rfl⟩ : ∃ j, k = j + 4 := ⟨k - 4, by omega⟩
  have hj : j < 20 := by omega
  rw [Nat.add_sub_cancel]
  have : j = 0 ∨ j = 1 ∨ j = 2 ∨ j = 3 ∨ j = 4 ∨ j = 5 ∨ j = 6 ∨ j = 7 ∨ j = 8 ∨ j = 9 ∨ j = 10 ∨ j = 11 ∨ j = 12 ∨ j = 13 ∨ j = 14 ∨ j = 15 ∨ j = 16 ∨ j = 17 ∨ j = 18 ∨ j = 19 := by omega
  rcases this with rfl | rfl | rfl | rfl | rfl | rfl | rfl | rfl | rfl | rfl | rfl | rfl | rfl | rfl | rfl | rfl | rfl | rfl | rfl | rfl <;> rfl
theorem symbols_any (w : World) : Calls Tryd.prog 4 #[] w fun e w' => e = .returned (.slice (some ⟨w.heap.size, 0, none⟩) 20 20) ∧ w' = w.alloc (.cells SY 9) := by
  go_enter Tryd.func4, Tryd.ntmps4
  go_wp2
  go_ret
  exact ⟨rfl, rfl⟩
theorem levels_any (w : World) : Calls Tryd.prog 5 #[] w fun e w' => e = .returned (.slice (some ⟨w.heap.size, 0, none⟩) 20 20) ∧ w' = w.alloc (.cells LV 3) := by
  go_enter Tryd.func5, Tryd.ntmps5
  go_wp2
  go_ret
  exact ⟨rfl, rfl⟩

/-- the table of package word lies in the memory -/
def TabIn (w : World) : Prop := ∀ k : Nat, k < 24 → w.cell? ⟨0, 2 * k, none⟩ = some (.string (symOf k)) ∧ w.cell? ⟨0, 2 * k + 1, none⟩ = some (.int .i64 (lvlOf k))

theorem symbol_any (k : Nat) (hk : k ≤ 255) (w : World) (ht : TabIn w) :
    Calls Tryd.prog 8 #[.int .u8 k] w fun e w' => e = .returned (.string (symOf k)) ∧ w = w' := by
  by_cases h : k < 24
  · have c := (ht k h).1
    rw [Nat.mul_comm] at c
    go_enter Tryd.func8, Tryd.ntmps8
    go_wp2
    go_ret
    exact ⟨rfl, rfl⟩
  · have e : symOf k = ⟨#[]⟩ := by
      unfold symOf; rw [List.getD_eq_getElem?_getD, List.getElem?_eq_none (by simp [symTab]; omega)]; rfl
    rw [e]
    go_enter Tryd.func8, Tryd.ntmps8
    go_wp2
    go_ret
    exact ⟨rfl, rfl⟩
theorem level_any (k : Nat) (hk : k ≤ 255) (w : World) (ht : TabIn w) :
    Calls Tryd.prog 9 #[.int .u8 k] w fun e w' => e = .returned (.int .i64 (lvlOf k)) ∧ w = w' := by
  by_cases h : k < 24
  · have c := (ht k h).2
    rw [Nat.mul_comm] at c
    go_enter Tryd.func9, Tryd.ntmps9
    go_wp2
    go_ret
    exact ⟨rfl, rfl⟩
  · have e : lvlOf k = 0 := by
      unfold lvlOf; rw [List.getD_eq_getElem?_getD, List.getElem?_eq_none (by simp [lvlTab]; omega)]; rfl
    rw [e]
    go_enter Tryd.func9, Tryd.ntmps9
    go_wp2
    go_ret
    exact ⟨rfl, rfl⟩
end Go.Proofs.YtgdinmlpogpadaaDoor
