/-
  Contracts: the sets of package liveness (one word, or none): empty, add, remove, join, contains.
-/
import Derived.Test.YteknhnnlhhgppaaDoorIrOwn
import Derived.Test.YteknhnnlhhgppaaDoorIrSet
import Derived.Test.YteknhnnlhhgppaaDoorIrStep
import Derived.Deep.Draws
import Derived.Test.YteknhnnlhhgppaaDoorMg0
import Derived.Test.YteknhnnlhhgppaaDoorMg3
namespace Go.Proofs.YteknhnnlhhgppaaDoor
set_option linter.unusedVariables false
set_option linter.unusedSimpArgs false
open Go.RowKit
set_option maxRecDepth 100000
set_option maxHeartbeats 4000000

theorem Tryd.infoU64 : (Tryd.prog.info? 127).map (fun i => (i.zero, i.size, i.bytes)) = some (some (.int .u64 0), 1, 8) := by kernel_rfl
theorem below_step {W w1 w2 : World} (h : Below W.heap.size W w1) (hB : Below w1.heap.size w1 w2) : Below W.heap.size W w2 := h.trans (hB.mono h.size)
/-- how many words -/
def nw (R : Nat) : Nat := if R = 0 then 0 else 1
/-- a set of registers of the call's own -/
structure SetV (B R : Nat) (w : World) (v : Value) (s : Nat) : Prop where
  row : w.ownsRow B 127 1 v (nw R) (List.replicate (nw R) (.int .u64 (s : Int)))
  lt : s < 2 ^ R
  few : R ≤ 12
/-- nothing turns but the block of v -/
structure Turn (v : Value) (w w' : World) : Prop where
  os : w'.os = w.os
  tape : w'.tape = w.tape
  output : w'.output = w.output
  size : w.heap.size ≤ w'.heap.size
  block : ∀ k, k < w.heap.size → v.ownBlock ≠ some k → w'.heap[k]? = w.heap[k]?
theorem Turn.below {v : Value} {w w' : World} {B : Nat} (h : Turn v w w') (hB : B ≤ w.heap.size) (hv : ∀ k, v.ownBlock = some k → B ≤ k) : Below B w w' :=
  ⟨h.os, h.tape, h.output, h.size, fun k hk => h.block k (by omega) (fun e => by have := hv k e; omega)⟩
theorem Turn.refl (v : Value) (w : World) : Turn v w w := ⟨rfl, rfl, rfl, Nat.le_refl _, fun _ _ _ => rfl⟩
theorem Turn.trans {v : Value} {a b c : World} (h : Turn v a b) (k : Turn v b c) : Turn v a c :=
  ⟨k.os.trans h.os, k.tape.trans h.tape, k.output.trans h.output, Nat.le_trans h.size k.size, fun i hi hv => (k.block i (Nat.lt_of_lt_of_le hi h.size) hv).trans (h.block i hi hv)⟩
theorem Turn.of {v : Value} {a b : World} (h : Below a.heap.size a b) : Turn v a b := ⟨h.os, h.tape, h.output, h.size, fun k hk _ => h.block k hk⟩
theorem Turn.drews {v : Value} {a b : World} (h : Turn v a b) (n : Nat) : Turn v a (b.drewN n) := ⟨h.os, h.tape, h.output, h.size, h.block⟩
theorem Turn.drew {v : Value} {a b : World} (h : Turn v a b) : Turn v a b.drew := ⟨h.os, h.tape, h.output, h.size, h.block⟩
theorem Turn.set {g n c j : Nat} {w : World} {u : Value} : Turn (.slice (some ⟨g, 0, none⟩) n c) w (w.setCell ⟨g, j, none⟩ u) :=
  ⟨rfl, rfl, rfl, by simp [World.setCell], fun k _ hk => Below.heap_setCell _ _ _ _ (fun e => hk (by show some g = some k; rw [e]))⟩
section
variable {B R : Nat} {w w' : World} {v : Value} {s : Nat}
theorem nw_pos {r : Nat} (h : r < R) : nw R = 1 := by unfold nw; rw [if_neg (by omega)]
theorem SetV.keep (h : SetV B R w v s) (hB : Below w.heap.size w w') : SetV B R w' v s := ⟨ownsRow_below h.row hB, h.lt, h.few⟩
theorem SetV.drewN (h : SetV B R w v s) (n : Nat) : SetV B R (w.drewN n) v s := ⟨h.row, h.lt, h.few⟩
theorem SetV.drew (h : SetV B R w v s) : SetV B R w.drew v s := ⟨h.row, h.lt, h.few⟩
theorem SetV.move (h : SetV B R w v s) (hm : ∀ k, v.ownBlock = some k → k < w.heap.size → w'.heap[k]? = w.heap[k]?) : SetV B R w' v s := ⟨ownsRow_move h.row hm, h.lt, h.few⟩
theorem SetV.base {B' : Nat} (h : SetV B R w v s) (hB : B' ≤ B) : SetV B' R w v s := ⟨ownsRow_base h.row hB, h.lt, h.few⟩
theorem SetV.small (h : SetV B R w v s) : s < 4096 := Nat.lt_of_lt_of_le h.lt (Nat.pow_le_pow_right (by omega) h.few)
theorem SetV.zero (h : SetV B 0 w v s) : s = 0 := by have := h.lt; omega
theorem SetV.own (h : SetV B R w v s) {k : Nat} (hk : v.ownBlock = some k) : B ≤ k ∧ k < w.heap.size := ownsRow_lt h.row hk
theorem SetV.cells {r : Nat} (h : SetV B R w v s) (hr : r < R) : ∃ g c, v = .slice (some ⟨g, 0, none⟩) 1 c ∧ B ≤ g ∧ g < w.heap.size ∧ w.cell? ⟨g, 0, none⟩ = some (.int .u64 (s : Int)) ∧ w.frozen? ⟨g, 0, none⟩ = false := by
  have hrow := h.row
  rw [nw_pos hr] at hrow
  obtain ⟨a, c, rfl⟩ := ownsRow_val hrow
  obtain ⟨g, rfl, h1, h2, _⟩ := own_some hrow (by omega)
  exact ⟨g, c, rfl, h1, h2, own_cell hrow (by simp), row_free hrow 0⟩
theorem SetV.set {g c r t : Nat} (h : SetV B R w (.slice (some ⟨g, 0, none⟩) 1 c) s) (hr : r < R) (ht : t < 2 ^ R) : SetV B R (w.setCell ⟨g, 0, none⟩ (.int .u64 (t : Int))) (.slice (some ⟨g, 0, none⟩) 1 c) t := by
  refine ⟨?_, ht, h.few⟩
  have hrow := h.row
  rw [nw_pos hr] at hrow ⊢
  have := ownsRow_set (j := 0) (u := .int .u64 (t : Int)) hrow (by omega)
  simpa using this
theorem SetV.none (h : SetV B 0 w v s) : ∃ a c, v = .slice a 0 c := by
  obtain ⟨a, c, rfl⟩ := ownsRow_val h.row
  exact ⟨a, c, rfl⟩
end
/-- the call turned the set v into t -/
def SetEnd (B R : Nat) (v : Value) (t : Nat) (w : World) (e : Ending) (w' : World) : Prop := (∃ u, e = .returned u) ∧ SetV B R w' v t ∧ Turn v w w'
theorem make_set (n : Nat) (hn : n ≤ 10000) (w : World) : (Instr.makeSlice 86 (.int .i64 (n : Int)) (.int .i64 (n : Int))).run Tryd.prog w = .ok (.slice (some ⟨w.heap.size, 0, none⟩) n n) (w.alloc (.cells (List.replicate n (.int .u64 0)).toArray 127)) := by
  obtain ⟨i0, hi, hz0, hz1, hz2⟩ := info_parts Tryd.infoU64
  rw [run_make w 86 127 i0 _ Tryd.underlying86 hi hz0 .i64 .i64 n n (by omega) (by omega) (by rw [hz2]; omega) (by omega)]
  have e : madeCells (Value.int .u64 0).cells (((n : Int)).toNat * i0.size) = (List.replicate n (.int .u64 0)).toArray := by
    rw [hz1, Int.toNat_natCast, Nat.mul_one]
    apply Array.toList_inj.1
    rw [show (Value.int .u64 0).cells = #[Value.int .u64 0] from rfl, toList_madeCells_one]
  rw [e, Int.toNat_natCast]
theorem empty_any (R : Nat) (w : World) (hR : R ≤ 12) : Calls Tryd.prog 45 #[.int .i64 (R : Int)] w fun e w' => ∃ v, e = .returned v ∧ SetV w.heap.size R w' v 0 ∧ Below w.heap.size w w' := by
  have hn1 : ((nw R : Nat) : Int) ≤ 1 := by unfold nw; split <;> omega
  have hn0 : (0 : Int) ≤ ((nw R : Nat) : Int) := by omega
  have hmk := make_set (nw R) (by unfold nw; split <;> omega)
  have h1 : ((R : Int) + 63).tdiv 64 = ((nw R : Nat) : Int) := by
    rw [Int.tdiv_eq_ediv_of_nonneg (by omega)]
    unfold nw
    split <;> omega
  have hmade := World.ownsRow_lit (base := w.heap.size) (e := 127) (size := 1) w (List.replicate (nw R) (.int .u64 (0 : Int))).toArray (nw R) (by omega) (by unfold nw maxLen; split <;> omega) (by simp)
  have HM := Lib.hid hmade
  clear hmade
  go_enter Tryd.func45, Tryd.ntmps45
  go_wp2_with fail
  go_ret
  refine ⟨_, rfl, ⟨?_, Nat.two_pow_pos R, hR⟩, (Below.refl _ _).alloc (Nat.le_refl _) _⟩
  simpa using HM.out
theorem add_any {B R s : Nat} {v : Value} (r : Nat) (w : World) (h : SetV B R w v s) (hr : r < R) :
    Calls Tryd.prog 46 #[v, .int .i64 (r : Int)] w (SetEnd B R v (addB s r) w) := by
  have h1 : (0 : Int) ≤ (r : Int) := by omega
  have hR := h.few
  have hs := h.small
  have h2 : (r : Int).tdiv 64 = 0 := by rw [Int.tdiv_eq_ediv_of_nonneg h1]; omega
  have h3 : (r : Int).tmod 64 = (r : Int) := by rw [Int.tmod_eq_emod_of_nonneg h1]; omega
  have HW : Hid (bits .or .u64 (s : Int) (IntKind.u64.wrap ((2 : Int) ^ r)) = ((addB s r : Nat) : Int)) := by
    show _ = _
    rw [wrap_pow (by omega), bits_or _ _ (by omega) (pow_lt64 (by omega))]
    rfl
  have HS := Lib.hid h
  obtain ⟨g, c, rfl, hg1, hg2, hc, hz⟩ := h.cells hr
  clear h
  go_enter Tryd.func46, Tryd.ntmps46
  go_wp2_with fail
  go_region
  go_end0
  refine ⟨⟨_, rfl⟩, ?_, Turn.set.drew⟩
  rw [HW.out]
  exact (HS.out.set hr (addB_lt HS.out.lt hr)).drew
theorem remove_any {B R s : Nat} {v : Value} (r : Nat) (w : World) (h : SetV B R w v s) (hr : r < R) :
    Calls Tryd.prog 55 #[v, .int .i64 (r : Int)] w (SetEnd B R v (remB s r) w) := by
  have h1 : (0 : Int) ≤ (r : Int) := by omega
  have hR := h.few
  have hs := h.small
  have h2 : (r : Int).tdiv 64 = 0 := by rw [Int.tdiv_eq_ediv_of_nonneg h1]; omega
  have h3 : (r : Int).tmod 64 = (r : Int) := by rw [Int.tmod_eq_emod_of_nonneg h1]; omega
  have HW : Hid (bits .andNot .u64 (s : Int) (IntKind.u64.wrap ((2 : Int) ^ r)) = ((remB s r : Nat) : Int)) := by
    show _ = _
    rw [wrap_pow (by omega), bits_not _ _ (by omega) (pow_lt64 (by omega))]
    rfl
  have HS := Lib.hid h
  obtain ⟨g, c, rfl, hg1, hg2, hc, hz⟩ := h.cells hr
  clear h
  go_enter Tryd.func55, Tryd.ntmps55
  go_wp2_with fail
  go_region
  go_end0
  refine ⟨⟨_, rfl⟩, ?_, Turn.set.drew⟩
  rw [HW.out]
  exact (HS.out.set hr (remB_lt HS.out.lt)).drew
theorem contains_any {B R s : Nat} {v : Value} (r : Nat) (w : World) (h : SetV B R w v s) (hr : r < R) :
    Calls Tryd.prog 68 #[v, .int .i64 (r : Int)] w fun e w' => e = .returned (.bool (s.testBit r)) ∧ w' = w := by
  have h1 : (0 : Int) ≤ (r : Int) := by omega
  have hR := h.few
  have hs := h.small
  have h2 : (r : Int).tdiv 64 = 0 := by rw [Int.tdiv_eq_ediv_of_nonneg h1]; omega
  have h3 : (r : Int).tmod 64 = (r : Int) := by rw [Int.tmod_eq_emod_of_nonneg h1]; omega
  have HS := Lib.hid h
  obtain ⟨g, c, rfl, hg1, hg2, hc, hz⟩ := h.cells hr
  clear h
  go_enter Tryd.func68, Tryd.ntmps68
  go_wp2_with fail
  go_ret
  refine ⟨?_, rfl⟩
  have e : (bits .and .u64 ((s : Int) / 2 ^ r) 1 == 1) = s.testBit r := by
    have e1 : (s : Int) / 2 ^ r = ((s / 2 ^ r : Nat) : Int) := by simp
    rw [e1, show (1 : Int) = ((1 : Nat) : Int) from rfl, bits_and _ _ (Nat.lt_of_le_of_lt (Nat.div_le_self _ _) (by omega)) (by omega), Nat.testBit, Nat.shiftRight_eq_div_pow, Nat.and_comm]
    have h5 : 1 &&& s / 2 ^ r = 0 ∨ 1 &&& s / 2 ^ r = 1 := by
      have := @Nat.and_le_left 1 (s / 2 ^ r)
      omega
    rcases h5 with h5 | h5 <;> rw [h5] <;> rfl
  simp only [e]
  rfl
/-- s and t: another set, only read -/
theorem join_any {B C R s t : Nat} {v u : Value} (w : World) (h : SetV B R w v s) (k : SetV C R w u t) (hne : v.ownBlock = none ∨ v.ownBlock ≠ u.ownBlock) :
    Calls Tryd.prog 54 #[v, u] w (SetEnd B R v (s ||| t) w) := by
  by_cases h0 : R = 0
  · subst h0
    obtain ⟨a, c, rfl⟩ := h.none
    obtain ⟨b, d, rfl⟩ := k.none
    have HS := Lib.hid h
    have e : s ||| t = s := by rw [k.zero]; simp
    rw [e]
    clear h k hne e
    go_enter Tryd.func54, Tryd.ntmps54
    go_wp2_with fail
    go_loopw [8] (fun i wr => i = .int .i64 (0 : Int) ∧ wr = w) (fun _ _ => 0)
    case atStart => exact ⟨rfl, rfl⟩
    case round =>
      obtain ⟨rfl, rfl⟩ := hrel
      go_wp2_with fail
      go_end0
      exact ⟨⟨_, rfl⟩, HS.out, Turn.refl _ _⟩
  · have hs := h.small
    have ht := k.small
    have HW : Hid (bits .or .u64 (s : Int) (t : Int) = ((s ||| t : Nat) : Int)) := bits_or _ _ (by omega) (by omega)
    have HS := Lib.hid h
    have HL := Lib.hid (And.intro h.lt k.lt)
    have hr : 0 < R := by omega
    obtain ⟨g, c, rfl, hg1, hg2, hc, hz⟩ := h.cells hr
    obtain ⟨g2, c2, rfl, _, _, hc2, _⟩ := k.cells hr
    clear h k hne hg1 hg2
    go_enter Tryd.func54, Tryd.ntmps54
    go_wp2_with fail
    go_loopw [8] (fun i wr => (i = .int .i64 (0 : Int) ∧ wr = w) ∨ (i = .int .i64 (1 : Int) ∧ SetV B R wr (.slice (some ⟨g, 0, none⟩) 1 c) (s ||| t) ∧ Turn (.slice (some ⟨g, 0, none⟩) 1 c) w wr)) (fun i _ => 1 - (intOf i).toNat)
    case atStart => exact .inl ⟨rfl, rfl⟩
    case round =>
      rcases hrel with ⟨rfl, rfl⟩ | ⟨rfl, hS, hT⟩
      · go_wp2_with fail
        rw [HW.out]
        exact ⟨.inr ⟨rfl, HS.out.set hr (or_lt HL.out.1 HL.out.2), Turn.set⟩, by decide⟩
      · have HS := Lib.hid hS
        have HT := Lib.hid hT
        clear hS hT
        go_wp2_with fail
        go_end0
        exact ⟨⟨_, rfl⟩, HS.out, HT.out⟩
end Go.Proofs.YteknhnnlhhgppaaDoor
