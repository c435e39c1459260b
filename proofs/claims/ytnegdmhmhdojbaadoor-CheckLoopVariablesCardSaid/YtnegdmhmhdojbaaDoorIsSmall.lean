/-
  Contract: trees within limits of depth and size (package ast).
-/
import Derived.Test.YtnegdmhmhdojbaaDoorRangeLaws
import Derived.Test.YtnegdmhmhdojbaaDoorTreeBase
import Derived.Test.YtnegdmhmhdojbaaDoorAstSize
import Derived.OneCell
namespace Go.Proofs.YtnegdmhmhdojbaaDoor
set_option linter.unusedVariables false
set_option linter.unusedSimpArgs false
open Go.RowKit
set_option maxRecDepth 100000

/-- whether a tree keeps limits; what is left -/
def SmallOk (t : Tree) (d L lb : Nat) (w : World) (e : Ending) (w' : World) : Prop :=
  ∃ (q : Bool) (L' : Int), e = .returned (.bool q) ∧ Keep (fun k => k = lb) w w' ∧ w'.heap[lb]? = some (.cells #[.int .i64 L'] 3 (0, 0)) ∧ q = decide (t.depth ≤ d ∧ t.size ≤ L) ∧ (q = true → L' = (L - t.size : Nat))

theorem sumTo_ge (f : Nat → Nat) (n m : Nat) (h : n ≤ m) : Tree.sumTo f n ≤ Tree.sumTo f m := Tree.sumTo_le h

set_option maxHeartbeats 2000000 in
theorem isSmall_any : ∀ (t : Tree) (d L lb : Nat) (w : World) (a : Option Addr) (c : Nat), RepIn (fun k => k ≠ lb) w t a → d ≤ 1000 → L ≤ 1000000 → w.heap[lb]? = some (.cells #[.int .i64 (L : Nat)] 3 (0, 0)) →
    Calls Tryd.prog 67 #[t.val a c, .int .i64 (d : Nat), .pointer (some ⟨lb, 0, none⟩)] w (SmallOk t d L lb w) := by
  intro t
  induction t using Tree.ind with
  | h t ih =>
    intro d L lb w a c hr hd hL hlb
    have IH := Lib.hid ih
    have HR := Lib.hid hr
    have HLB := Lib.hid hlb
    have hlen := hr.fits.len
    have hlbs : lb < w.heap.size := (Array.getElem?_eq_some_iff.1 hlb).1
    have lc : w.cell? ⟨lb, 0, none⟩ = some (.int .i64 (L : Nat)) := cell_of_one hlb
    have lf : w.frozen? ⟨lb, 0, none⟩ = false := free_of_one hlb
    have HSE := Lib.hid t.size_eq
    have HDE := Lib.hid t.depth_eq
    have hpos := Tree.size_pos t
    clear ih hr hlb
    have HK0 : Hid (∀ v : Value, Keep (fun k => k = lb) w ((w.setCell ⟨lb, 0, none⟩ v).alloc (.cells #[.int .u8 t.kind, .int .i64 t.num, .string t.name, .slice a t.len c] 43))) := fun v => (Keep.setCell (O := fun k => k = lb) (b := lb) (Keep.refl _ w) rfl v).trans (Keep.ofBelow ((Below.refl _ _).alloc (Nat.le_refl _) _))
    have HL0 : Hid (∀ v : Value, ((w.setCell ⟨lb, 0, none⟩ v).alloc (.cells #[.int .u8 t.kind, .int .i64 t.num, .string t.name, .slice a t.len c] 43)).heap[lb]? = some (.cells #[v] 3 (0, 0))) := fun v => (Below.heap_alloc _ _ _ (by simpa using hlbs)).trans (one_setCell HLB.out)
    by_cases hd0 : d = 0
    · subst hd0
      have HQ : Hid (decide (t.depth ≤ 0 ∧ t.size ≤ L) = false) := decide_eq_false (fun h => by have := HDE.out; omega)
      go_enter Tryd.func67, Tryd.ntmps67
      go_wp2_with fail
      go_ret
      exact ⟨false, _, rfl, HK0.out _, HL0.out _, HQ.out.symm, fun h => (by cases h)⟩
    · have qd : ((d : Int) == 0) = false := by simpa using hd0
      have hd1 : 1 ≤ d := by omega
      clear hd0
      by_cases hL0 : L = 0
      · have HQ : Hid (decide (t.depth ≤ d ∧ t.size ≤ L) = false) := decide_eq_false (fun h => by omega)
        have hL1 : (L : Int) - 1 < 0 := by omega
        clear hL0
        go_enter Tryd.func67, Tryd.ntmps67
        go_wp2_with fail
        go_ret
        exact ⟨false, _, rfl, HK0.out _, HL0.out _, HQ.out.symm, fun h => (by cases h)⟩
      · have hL1 : 1 ≤ L := by omega
        clear hL0
        go_enter Tryd.func67, Tryd.ntmps67
        go_wp2_with fail
        go_loopw [25] (fun i wr => ∃ j : Nat, j ≤ t.len ∧ i = .int .i64 j ∧ Tree.maxTo (fun i => (t.kid i).depth) j < d ∧ Tree.sumTo (fun i => (t.kid i).size) j ≤ L - 1 ∧ wr.heap[lb]? = some (.cells #[.int .i64 ((L - 1 - Tree.sumTo (fun i => (t.kid i).size) j : Nat) : Int)] 3 (0, 0)) ∧ Keep (fun k => k = lb) w wr) (fun i _ => t.len - (intOf i).toNat)
        case atStart =>
          refine ⟨0, Nat.zero_le _, rfl, hd1, Nat.zero_le _, ?_, HK0.out _⟩
          rw [HL0.out]
          simp [Tree.sumTo]; omega
        case round =>
          obtain ⟨j, hj, rfl, hmax, hsum, hlw, hK⟩ := hrel
          have HK := Lib.hid hK
          have HLW := Lib.hid hlw
          have hsz := hK.size
          clear hlw hK
          by_cases hlt : j < t.len
          · rcases HR.out.kids with h0 | ⟨b, off, rfl, hSb, hc⟩
            · omega
            obtain ⟨ai, ci, hn, hrk⟩ := hc j hlt
            have hbW := hn.lt
            obtain ⟨f0, f1, f2, f3⟩ := hn.same (HK.out.block b hSb hbW)
            have HRK := Lib.hid hrk
            have HS1 := Lib.hid (Tree.sumTo_succ (fun i => (t.kid i).size) j)
            have HM1 := Lib.hid (Tree.maxTo_succ (fun i => (t.kid i).depth) j)
            have hsm := Tree.sumTo_le (f := fun i => (t.kid i).size) (show j + 1 ≤ t.len by omega)
            have hmm := Tree.maxTo_le (f := fun i => (t.kid i).depth) (show j + 1 ≤ t.len by omega)
            clear hc hn hrk
            go_wp2_with fail
            have HB2 : Hid (Below wr.heap.size wr (wr.alloc (.cells #[.int .u8 (t.kid j).kind, .int .i64 (t.kid j).num, .string (t.kid j).name, .slice ai (t.kid j).len ci] 43))) := (Below.refl _ _).alloc (Nat.le_refl _) _
            have hcast : (d : Int) - 1 = ((d - 1 : Nat) : Int) := by omega
            rw [hcast]
            clear hcast
            refine (IH.out j hlt (d - 1) (L - 1 - Tree.sumTo (fun i => (t.kid i).size) j) lb _ ai ci (HRK.out.move (fun k hk hl => (HB2.out.block k (by omega)).trans (HK.out.block k hk hl)) (fun _ h _ => h)) (by omega) (by omega) ((HB2.out.block lb (by omega)).trans HLW.out)).mono ?_
            rintro e w1 ⟨q, L', rfl, hK1, hl1, hq, hL'⟩
            have HK1 := Lib.hid ((HK.out.trans (Keep.ofBelow HB2.out)).trans hK1)
            have HL1 := Lib.hid hl1
            have HQ := Lib.hid hq
            have HL' := Lib.hid hL'
            clear hK1 hl1 hq hL'
            cases q with
            | true =>
              have hqq : (t.kid j).depth ≤ d - 1 ∧ (t.kid j).size ≤ L - 1 - Tree.sumTo (fun i => (t.kid i).size) j := of_decide_eq_true HQ.out.symm
              have HN1 : Hid (Tree.maxTo (fun i => (t.kid i).depth) (j + 1) < d) := by have := HM1.out; show _ < _; omega
              have HN2 : Hid (Tree.sumTo (fun i => (t.kid i).size) (j + 1) ≤ L - 1) := by have := HS1.out; show _ ≤ _; omega
              have HN3 : Hid (w1.heap[lb]? = some (.cells #[.int .i64 ((L - 1 - Tree.sumTo (fun i => (t.kid i).size) (j + 1) : Nat) : Int)] 3 (0, 0))) := by
                have h := HL1.out
                rw [HL'.out rfl] at h
                have e : L - 1 - Tree.sumTo (fun i => (t.kid i).size) j - (t.kid j).size = L - 1 - Tree.sumTo (fun i => (t.kid i).size) (j + 1) := by rw [HS1.out]; omega
                rw [e] at h
                exact h
              clear hqq hsm hmm
              go_wp2_with fail
              go_roundw
              case rel => exact ⟨j + 1, by omega, by go_num, HN1.out, HN2.out, HN3.out, HK1.out⟩
              case measure => simp [intOf]; omega
            | false =>
              have hqq : ¬ ((t.kid j).depth ≤ d - 1 ∧ (t.kid j).size ≤ L - 1 - Tree.sumTo (fun i => (t.kid i).size) j) := of_decide_eq_false HQ.out.symm
              have HN : Hid (decide (t.depth ≤ d ∧ t.size ≤ L) = false) := by
                refine decide_eq_false (fun h => hqq ?_)
                have h1 := HDE.out; have h2 := HSE.out; have h3 := HS1.out; have h4 := HM1.out
                constructor <;> omega
              clear hqq hsm hmm
              go_wp2_with fail
              go_ret
              exact ⟨false, _, rfl, HK1.out, HL1.out, HN.out.symm, fun h => (by cases h)⟩
          · obtain rfl : j = t.len := by omega
            have HN : Hid (decide (t.depth ≤ d ∧ t.size ≤ L) = true) := by
              refine decide_eq_true ?_
              have h1 := HDE.out; have h2 := HSE.out
              constructor <;> omega
            have HN3 : Hid (L - 1 - Tree.sumTo (fun i => (t.kid i).size) t.len = L - t.size) := by have h2 := HSE.out; show _ = _; omega
            go_wp2_with fail
            go_ret
            exact ⟨true, _, rfl, HK.out, HLW.out, HN.out.symm, fun _ => by rw [HN3.out]⟩
end Go.Proofs.YtnegdmhmhdojbaaDoor
