/-
  Mg16: several texts in one (RangeWp, IsSmall).
-/
import Derived.Test.YtkpdngfkdmllkaaDoorRangeLaw
import Derived.ControlIn
import Derived.Test.YtkpdngfkdmllkaaDoorMg7
import Derived.Test.YtkpdngfkdmllkaaDoorMg5
import Derived.OneCell
/-
  The law for a range over a function, outside of a fence. No program is named here.
-/
namespace Go.Proofs.YtkpdngfkdmllkaaDoor
set_option linter.unusedVariables false
set_option linter.unusedSimpArgs false
open Go.RowKit

theorem range_wp {α : Type} {P : Program} {g : Operand} {ps : Array Tmp} {assign body : Code} {Q : Exit → Act → World → Prop} {a : Act} {w : World}
    {gf : Nat} {lb : Array Value} (hg : a.eval g = .func (.func gf) #[] lb) (eg : ∀ args w, (callFunc gf args).run P w = .ok (.enter gf args) w)
    {S : Nat → Prop} {E : (Nat → Prop) → α → Array Value → World → Prop} {xs : List α} (hseq : IterOk P gf lb S E xs w)
    (O : Nat → Prop) (hO1 : ∀ k, O k → k < w.heap.size) (hO2 : ∀ k, O k → ¬ S k) (hS : ∀ k, S k → k < w.heap.size)
    (hps : ∀ O x args W, E O x args W → args.size = ps.size)
    (I : List α → World → Prop) (Ix : Code → List α → World → Prop)
    (hI : ∀ pre A B, I pre A → Keep (fun k => w.heap.size ≤ k ∧ k ≤ w.heap.size + 1) A B → I pre B)
    (hIx : ∀ c pre A B, Ix c pre A → Keep (fun k => w.heap.size ≤ k ∧ k ≤ w.heap.size + 1) A B → Ix c pre B)
    (h0 : I [] w)
    (M : α → Act → World → Prop)
    (hM : ∀ x a' A B, M x a' A → Keep (fun k => w.heap.size ≤ k ∧ k ≤ w.heap.size + 1) A B → M x a' B)
    (hassign : ∀ (m l : Nat) (pre : List α) (x : α) (args : Array Value) (W : World) (K : Act → World → Prop), I pre W → w.heap.size + 2 ≤ W.heap.size → E (fun k => O k ∨ (w.heap.size ≤ k ∧ k ≤ w.heap.size + 1)) x args W →
      (∀ a' W', Below W.heap.size W W' → M x a' W' → K a' W') →
      assign.wpIn (Fence.wide.inRound l) m P (Exit.then K (fun _ _ _ => False)) { tmps := (ps.zip args).foldl (fun t (p, v) => t.setIfInBounds p v) a.tmps, defers := [] } W)
    (hbody : ∀ (m l : Nat) (pre : List α) (x : α) (a' : Act) (W : World), pre ++ [x] <+: xs → I pre W → w.heap.size + 2 ≤ W.heap.size → M x a' W → body.wpIn (Fence.wide.inRound l) m P (roundEnd O I Ix (pre ++ [x]) W) a' W)
    (hdone : ∀ (W : World), I xs W → Keep O w W → W.heap[w.heap.size]? = some (.deferred (some [])) → Q .normal { a with defers := { target := .collected w.heap.size, args := #[] } :: a.defers } W)
    (hstop : ∀ (c : Code) (q : List α) (W : World), q <+: xs → Ix c q W → Keep O w W → W.heap[w.heap.size]? = some (.deferred (some [])) → c.wp P Q { a with defers := { target := .collected w.heap.size, args := #[] } :: a.defers } W) :
    (Code.rangeFunc g ps assign body).wp P Q a w :=
  (wpIn_wide (n := 0)).1 (range_law hg eg hseq O hO1 hO2 hS hps I Ix hI hIx h0 M hM hassign hbody hdone (fun c q W h1 h2 h3 h4 => wpIn_wide.2 (hstop c q W h1 h2 h3 h4)))

theorem range_wpT {α : Type} {P : Program} {g : Operand} {ps : Array Tmp} {assign body : Code} {Q : Exit → Act → World → Prop} {a : Act} {w : World}
    {gf : Nat} {lb : Array Value} (hg : a.eval g = .func (.func gf) #[] lb) (eg : ∀ args w, (callFunc gf args).run P w = .ok (.enter gf args) w)
    {S : Nat → Prop} {E : (Nat → Prop) → α → Array Value → World → Prop} {xs : List α} (hseq : IterOk P gf lb S E xs w)
    (O : Nat → Prop) (hO1 : ∀ k, O k → k < w.heap.size) (hO2 : ∀ k, O k → ¬ S k) (hS : ∀ k, S k → k < w.heap.size)
    (hps : ∀ O x args W, E O x args W → args.size = ps.size)
    (I : List α → World → Prop) (Ix : Code → List α → World → Prop)
    (hI : ∀ pre A B, I pre A → Keep (fun k => w.heap.size ≤ k ∧ k ≤ w.heap.size + 1) A B → I pre B)
    (hIx : ∀ c pre A B, Ix c pre A → Keep (fun k => w.heap.size ≤ k ∧ k ≤ w.heap.size + 1) A B → Ix c pre B)
    (h0 : I [] w)
    (M : Array Value → α → Act → World → Prop)
    (hM : ∀ x a' A B, M a.tmps x a' A → Keep (fun k => w.heap.size ≤ k ∧ k ≤ w.heap.size + 1) A B → M a.tmps x a' B)
    (hassign : ∀ (m l : Nat) (pre : List α) (x : α) (args : Array Value) (W : World) (K : Act → World → Prop), I pre W → w.heap.size + 2 ≤ W.heap.size → E (fun k => O k ∨ (w.heap.size ≤ k ∧ k ≤ w.heap.size + 1)) x args W →
      (∀ a' W', Below W.heap.size W W' → M a.tmps x a' W' → K a' W') →
      assign.wpIn (Fence.wide.inRound l) m P (Exit.then K (fun _ _ _ => False)) { tmps := (ps.zip args).foldl (fun t (p, v) => t.setIfInBounds p v) a.tmps, defers := [] } W)
    (hbody : ∀ (m l : Nat) (pre : List α) (x : α) (a' : Act) (W : World), pre ++ [x] <+: xs → I pre W → w.heap.size + 2 ≤ W.heap.size → M a.tmps x a' W → body.wpIn (Fence.wide.inRound l) m P (roundEnd O I Ix (pre ++ [x]) W) a' W)
    (hdone : ∀ (W : World), I xs W → Keep O w W → W.heap[w.heap.size]? = some (.deferred (some [])) → Q .normal { a with defers := { target := .collected w.heap.size, args := #[] } :: a.defers } W)
    (hstop : ∀ (c : Code) (q : List α) (W : World), q <+: xs → Ix c q W → Keep O w W → W.heap[w.heap.size]? = some (.deferred (some [])) → c.wp P Q { a with defers := { target := .collected w.heap.size, args := #[] } :: a.defers } W) :
    (Code.rangeFunc g ps assign body).wp P Q a w :=
  range_wp hg eg hseq O hO1 hO2 hS hps I Ix hI hIx h0 (M a.tmps) hM hassign hbody hdone hstop

theorem Keep.cell {O : Nat → Prop} {A B : World} (h : Keep O A B) {b o : Nat} {v : Value} (hb : ¬ O b) (hc : A.cell? ⟨b, o, none⟩ = some v) : B.cell? ⟨b, o, none⟩ = some v :=
  (World.cell?_of_block (a := ⟨b, o, none⟩) (h.block b hb (World.block_lt_of_cell? A _ hc))).trans hc
theorem frozen_of_block {A B : World} {b o : Nat} (h : B.heap[b]? = A.heap[b]?) : B.frozen? ⟨b, o, none⟩ = A.frozen? ⟨b, o, none⟩ := by
  unfold World.frozen?; rw [h]
theorem Keep.frozen {O : Nat → Prop} {A B : World} (h : Keep O A B) {b o : Nat} (hb : ¬ O b) (hl : b < A.heap.size) : B.frozen? ⟨b, o, none⟩ = A.frozen? ⟨b, o, none⟩ :=
  frozen_of_block (h.block b hb hl)
theorem Keep.setCell {O : Nat → Prop} {A B : World} (h : Keep O A B) {b o : Nat} (hb : O b) (v : Value) : Keep O A (B.setCell ⟨b, o, none⟩ v) := by
  have hx := (Below.refl b B).setCell (p := ⟨b, o, none⟩) (Nat.le_refl _) v
  refine ⟨hx.os.trans h.os, hx.tape.trans h.tape, hx.output.trans h.output, Nat.le_trans h.size hx.size, fun k hk hl => ?_⟩
  have hne : k ≠ b := fun e => hk (e ▸ hb)
  exact (Below.heap_setCell _ _ _ _ hne).trans (h.block k hk hl)
theorem Keep.drew {O : Nat → Prop} {A B : World} (h : Keep O A B) : Keep O A B.drew := ⟨h.os, h.tape, h.output, h.size, h.block⟩
end Go.Proofs.YtkpdngfkdmllkaaDoor

/-
  Contract: trees within limits of depth and size (package ast).
-/
namespace Go.Proofs.YtkpdngfkdmllkaaDoor
set_option linter.unusedVariables false
set_option linter.unusedSimpArgs false
open Go.RowKit
set_option maxRecDepth 100000

/-- whether a tree keeps limits; what is left -/
def SmallOk (t : Tree) (d L lb : Nat) (w : World) (e : Ending) (w' : World) : Prop :=
  ∃ (q : Bool) (L' : Int), e = .returned (.bool q) ∧ Keep (fun k => k = lb) w w' ∧ w'.heap[lb]? = some (.cells #[.int .i64 L'] 3 (0, 0)) ∧ q = decide (t.depth ≤ d ∧ t.size ≤ L) ∧ (q = true → L' = (L - t.size : Nat))

theorem sumTo_ge (f : Nat → Nat) (n m : Nat) (h : n ≤ m) : Tree.sumTo f n ≤ Tree.sumTo f m := Tree.sumTo_le h

set_option maxHeartbeats 2000000 in
theorem isSmall_any : ∀ (t : Tree) (d L lb : Nat) (w : World) (a : Option Addr) (c : Nat), RepIn (fun k => k ≠ lb) w t a → d ≤ 1000 → L ≤ 1000000 → w.heap[lb]? = some (.cells #[.int .i64 (L : Nat)] 3 (0, 0)) →
    Calls Tryd.prog 53 #[t.val a c, .int .i64 (d : Nat), .pointer (some ⟨lb, 0, none⟩)] w (SmallOk t d L lb w) := by
  intro t
  induction t using Tree.ind with
  | h t ih =>
    intro d L lb w a c hr hd hL hlb
    have IH := Lib.hid ih
    have HR := Lib.hid hr
    have HLB := Lib.hid hlb
    have hlen := hr.fits.len
    have hlbs : lb < w.heap.size := (Array.getElem?_eq_some_iff.1 hlb).1
    have lc : w.cell? ⟨lb, 0, none⟩ = some (.int .i64 (L : Nat)) := cell_of_one hlb
    have lf : w.frozen? ⟨lb, 0, none⟩ = false := free_of_one hlb
    have HSE := Lib.hid t.size_eq
    have HDE := Lib.hid t.depth_eq
    have hpos := Tree.size_pos t
    clear ih hr hlb
    have HK0 : Hid (∀ v : Value, Keep (fun k => k = lb) w ((w.setCell ⟨lb, 0, none⟩ v).alloc (.cells #[.int .u8 t.kind, .int .i64 t.num, .string t.name, .slice a t.len c] 35))) := fun v => (Keep.setCell (O := fun k => k = lb) (b := lb) (Keep.refl _ w) rfl v).trans (Keep.ofBelow ((Below.refl _ _).alloc (Nat.le_refl _) _))
    have HL0 : Hid (∀ v : Value, ((w.setCell ⟨lb, 0, none⟩ v).alloc (.cells #[.int .u8 t.kind, .int .i64 t.num, .string t.name, .slice a t.len c] 35)).heap[lb]? = some (.cells #[v] 3 (0, 0))) := fun v => (Below.heap_alloc _ _ _ (by simpa using hlbs)).trans (one_setCell HLB.out)
    by_cases hd0 : d = 0
    · subst hd0
      have HQ : Hid (decide (t.depth ≤ 0 ∧ t.size ≤ L) = false) := decide_eq_false (fun h => by have := HDE.out; omega)
      go_enter Tryd.func53, Tryd.ntmps53
      go_wp2_with fail
      go_ret
      exact ⟨false, _, rfl, HK0.out _, HL0.out _, HQ.out.symm, fun h => (by cases h)⟩
    · have qd : ((d : Int) == 0) = false := by simpa using hd0
      have hd1 : 1 ≤ d := by omega
      clear hd0
      by_cases hL0 : L = 0
      · have HQ : Hid (decide (t.depth ≤ d ∧ t.size ≤ L) = false) := decide_eq_false (fun h => by omega)
        have hL1 : (L : Int) - 1 < 0 := by omega
        clear hL0
        go_enter Tryd.func53, Tryd.ntmps53
        go_wp2_with fail
        go_ret
        exact ⟨false, _, rfl, HK0.out _, HL0.out _, HQ.out.symm, fun h => (by cases h)⟩
      · have hL1 : 1 ≤ L := by omega
        clear hL0
        go_enter Tryd.func53, Tryd.ntmps53
        go_wp2_with fail
        go_loopw [25] (fun i wr => ∃ j : Nat, j ≤ t.len ∧ i = .int .i64 j ∧ Tree.maxTo (fun i => (t.kid i).depth) j < d ∧ Tree.sumTo (fun i => (t.kid i).size) j ≤ L - 1 ∧ wr.heap[lb]? = some (.cells #[.int .i64 ((L - 1 - Tree.sumTo (fun i => (t.kid i).size) j : Nat) : Int)] 3 (0, 0)) ∧ Keep (fun k => k = lb) w wr) (fun i _ => t.len - (intOf i).toNat)
        case atStart =>
          refine ⟨0, Nat.zero_le _, rfl, hd1, Nat.zero_le _, ?_, HK0.out _⟩
          rw [HL0.out]
          simp [Tree.sumTo]; omega
        case round =>
          obtain ⟨j, hj, rfl, hmax, hsum, hlw, hK⟩ := hrel
          have HK := Lib.hid hK
          have HLW := Lib.hid hlw
          have hsz := hK.size
          clear hlw hK
          by_cases hlt : j < t.len
          · rcases HR.out.kids with h0 | ⟨b, off, rfl, hSb, hc⟩
            · omega
            obtain ⟨ai, ci, hn, hrk⟩ := hc j hlt
            have hbW := hn.lt
            obtain ⟨f0, f1, f2, f3⟩ := hn.same (HK.out.block b hSb hbW)
            have HRK := Lib.hid hrk
            have HS1 := Lib.hid (Tree.sumTo_succ (fun i => (t.kid i).size) j)
            have HM1 := Lib.hid (Tree.maxTo_succ (fun i => (t.kid i).depth) j)
            have hsm := Tree.sumTo_le (f := fun i => (t.kid i).size) (show j + 1 ≤ t.len by omega)
            have hmm := Tree.maxTo_le (f := fun i => (t.kid i).depth) (show j + 1 ≤ t.len by omega)
            clear hc hn hrk
            go_wp2_with fail
            have HB2 : Hid (Below wr.heap.size wr (wr.alloc (.cells #[.int .u8 (t.kid j).kind, .int .i64 (t.kid j).num, .string (t.kid j).name, .slice ai (t.kid j).len ci] 35))) := (Below.refl _ _).alloc (Nat.le_refl _) _
            have hcast : (d : Int) - 1 = ((d - 1 : Nat) : Int) := by omega
            rw [hcast]
            clear hcast
            refine (IH.out j hlt (d - 1) (L - 1 - Tree.sumTo (fun i => (t.kid i).size) j) lb _ ai ci (HRK.out.move (fun k hk hl => (HB2.out.block k (by omega)).trans (HK.out.block k hk hl)) (fun _ h _ => h)) (by omega) (by omega) ((HB2.out.block lb (by omega)).trans HLW.out)).mono ?_
            rintro e w1 ⟨q, L', rfl, hK1, hl1, hq, hL'⟩
            have HK1 := Lib.hid ((HK.out.trans (Keep.ofBelow HB2.out)).trans hK1)
            have HL1 := Lib.hid hl1
            have HQ := Lib.hid hq
            have HL' := Lib.hid hL'
            clear hK1 hl1 hq hL'
            cases q with
            | true =>
              have hqq : (t.kid j).depth ≤ d - 1 ∧ (t.kid j).size ≤ L - 1 - Tree.sumTo (fun i => (t.kid i).size) j := of_decide_eq_true HQ.out.symm
              have HN1 : Hid (Tree.maxTo (fun i => (t.kid i).depth) (j + 1) < d) := by have := HM1.out; show _ < _; omega
              have HN2 : Hid (Tree.sumTo (fun i => (t.kid i).size) (j + 1) ≤ L - 1) := by have := HS1.out; show _ ≤ _; omega
              have HN3 : Hid (w1.heap[lb]? = some (.cells #[.int .i64 ((L - 1 - Tree.sumTo (fun i => (t.kid i).size) (j + 1) : Nat) : Int)] 3 (0, 0))) := by
                have h := HL1.out
                rw [HL'.out rfl] at h
                have e : L - 1 - Tree.sumTo (fun i => (t.kid i).size) j - (t.kid j).size = L - 1 - Tree.sumTo (fun i => (t.kid i).size) (j + 1) := by rw [HS1.out]; omega
                rw [e] at h
                exact h
              clear hqq hsm hmm
              go_wp2_with fail
              go_roundw
              case rel => exact ⟨j + 1, by omega, by go_num, HN1.out, HN2.out, HN3.out, HK1.out⟩
              case measure => simp [intOf]; omega
            | false =>
              have hqq : ¬ ((t.kid j).depth ≤ d - 1 ∧ (t.kid j).size ≤ L - 1 - Tree.sumTo (fun i => (t.kid i).size) j) := of_decide_eq_false HQ.out.symm
              have HN : Hid (decide (t.depth ≤ d ∧ t.size ≤ L) = false) := by
                refine decide_eq_false (fun h => hqq ?_)
                have h1 := HDE.out; have h2 := HSE.out; have h3 := HS1.out; have h4 := HM1.out
                constructor <;> omega
              clear hqq hsm hmm
              go_wp2_with fail
              go_ret
              exact ⟨false, _, rfl, HK1.out, HL1.out, HN.out.symm, fun h => (by cases h)⟩
          · obtain rfl : j = t.len := by omega
            have HN : Hid (decide (t.depth ≤ d ∧ t.size ≤ L) = true) := by
              refine decide_eq_true ?_
              have h1 := HDE.out; have h2 := HSE.out
              constructor <;> omega
            have HN3 : Hid (L - 1 - Tree.sumTo (fun i => (t.kid i).size) t.len = L - t.size) := by have h2 := HSE.out; show _ = _; omega
            go_wp2_with fail
            go_ret
            exact ⟨true, _, rfl, HK.out, HLW.out, HN.out.symm, fun _ => by rw [HN3.out]⟩
end Go.Proofs.YtkpdngfkdmllkaaDoor
