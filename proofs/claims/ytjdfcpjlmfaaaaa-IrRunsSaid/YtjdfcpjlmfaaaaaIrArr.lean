/-
  Arrays and shared objects in memory (layer 17); contract: Index (package ontimeref17).
-/
import Derived.Test.YtjdfcpjlmfaaaaaRef17
namespace Go.Proofs.Ytjdfcpjlmfaaaaa
set_option linter.unusedVariables false
set_option linter.unusedSimpArgs false
open Go.RowKit
set_option maxRecDepth 100000

/-- a list of declarations (name, length) at an address -/
structure ArrsAt (w : World) (a : Option Addr) (l : List (ByteArray × Int)) : Prop where
  fits : l.length ≤ 9223372036854775807
  sizes : ∀ p ∈ l, p.1.size ≤ 9223372036854775807
  at_ : l.length = 0 ∨ ∃ b off, a = some ⟨b, off, none⟩ ∧ ∀ (i : Nat) (p : ByteArray × Int), l[i]? = some p → w.cell? ⟨b, off + i * 2, none⟩ = some (.string p.1) ∧ w.cell? ⟨b, off + i * 2 + 1, none⟩ = some (.int .i64 p.2)
theorem ArrsAt.below {w w' : World} {a : Option Addr} {l : List (ByteArray × Int)} (h : ArrsAt w a l) (hB : Below w.heap.size w w') : ArrsAt w' a l := by
  refine ⟨h.fits, h.sizes, ?_⟩
  rcases h.at_ with h0 | ⟨b, off, ha, hk⟩
  · exact .inl h0
  · refine .inr ⟨b, off, ha, fun i p hp => ?_⟩
    obtain ⟨h1, h2⟩ := hk i p hp
    exact ⟨(hB.cell (p := ⟨b, _, none⟩) (World.block_lt_of_cell? w _ h1)).trans h1, (hB.cell (p := ⟨b, _, none⟩) (World.block_lt_of_cell? w _ h2)).trans h2⟩
/-- the index of a name among the declarations, from a place on; or -1 -/
def idxFrom (name : ByteArray) : List (ByteArray × Int) → Nat → Int
  | [], _ => -1
  | p :: l, k => if p.1.toList = name.toList then (k : Int) else idxFrom name l (k + 1)
def idx (l : List (ByteArray × Int)) (name : ByteArray) : Int := idxFrom name l 0
example : idx [(⟨#[2]⟩, 4)] ⟨#[2]⟩ = 0 ∧ idx [] ⟨#[2]⟩ = -1 := ⟨by simp [idx, idxFrom], rfl⟩
theorem idxFrom_drop {name : ByteArray} {l : List (ByteArray × Int)} {k : Nat} {p : ByteArray × Int} (h : l[k]? = some p) : idxFrom name (l.drop k) k = if p.1.toList = name.toList then (k : Int) else idxFrom name (l.drop (k + 1)) (k + 1) := by
  obtain ⟨hk, rfl⟩ := List.getElem?_eq_some_iff.1 h
  rw [List.drop_eq_getElem_cons hk]
  rfl

set_option maxHeartbeats 4000000 in
theorem index_any (l : List (ByteArray × Int)) (a : Option Addr) (c : Nat) (name : ByteArray) (w : World) (hl : ArrsAt w a l) :
    Calls Try.prog 35 #[.slice a l.length c, .string name] w fun e w' => e = .returned (.int .i64 (idx l name)) ∧ w = w' := by
  have hf := hl.fits
  have HL := Lib.hid hl
  clear hl
  go_enter Try.func35, Try.ntmps35
  go_wp2
  go_loop [5] (fun i => ∃ k : Nat, k ≤ l.length ∧ i = .int .i64 k ∧ idxFrom name (l.drop k) k = idx l name) (fun i => l.length - (intOf i).toNat)
  case atStart => exact ⟨0, Nat.zero_le _, rfl, rfl⟩
  case round =>
    obtain ⟨k, hk, rfl, hid⟩ := hrel
    have HID := Lib.hid hid
    clear hid
    by_cases hlt : k < l.length
    · obtain ⟨p, hp⟩ : ∃ p, l[k]? = some p := ⟨_, List.getElem?_eq_getElem hlt⟩
      rcases HL.out.at_ with h0 | ⟨b, off, rfl, hc⟩
      · omega
      obtain ⟨c1, c2⟩ := hc k p hp
      have HS := Lib.hid (idxFrom_drop (name := name) hp)
      have hk0 : (0 : Int) ≤ (k : Int) := by omega
      have hk1 : (k : Int) < (l.length : Int) := by omega
      clear hc hp
      go_wp2
      · have h : (p.1.toList == name.toList) = true := by assumption
        have h' : p.1.toList = name.toList := by simpa using h
        have hi : idx l name = (k : Int) := by rw [← HID.out, HS.out, if_pos h']
        go_ret
        exact ⟨by rw [hi]; rfl, rfl⟩
      · have h : (p.1.toList == name.toList) = false := by assumption
        have h' : ¬ p.1.toList = name.toList := by simpa using h
        exact ⟨⟨k + 1, by omega, by go_num, by rw [← HID.out, HS.out, if_neg h']⟩, by simp [intOf]; omega⟩
    · obtain rfl : k = l.length := by omega
      go_wp2
      go_ret
      refine ⟨?_, rfl⟩
      have := HID.out
      rw [List.drop_length] at this
      rw [← this]
      rfl
end Go.Proofs.Ytjdfcpjlmfaaaaa
