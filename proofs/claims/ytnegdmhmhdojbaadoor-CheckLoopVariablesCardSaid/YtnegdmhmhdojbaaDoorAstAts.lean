/-
  AstAts: several texts in one (AstEqual, AstAt).
-/
import Derived.Test.YtnegdmhmhdojbaaDoorAstSize
import Derived.Deep.RegionHeld3
import Derived.Outline
import Derived.Test.YtnegdmhmhdojbaaDoorAstClone
import Derived.Test.YtnegdmhmhdojbaaDoorPathRowsT
import Derived.StillTailTactics
import Derived.Deep.QuietTactic
import Derived.BigQuiet
import Derived.RegionTactic
import Derived.BigRegion
import Derived.Laws.Rows
import Derived.RangeFuncRecord
/-
  Contracts: when trees are equal (packages ast and ontimeref12).
-/
namespace Go.Proofs.YtnegdmhmhdojbaaDoor
set_option linter.unusedVariables false
set_option linter.unusedSimpArgs false
open Go.RowKit
set_option maxRecDepth 100000

/-- equal trees -/
noncomputable def eqT (a b : Tree) : Bool := @decide (a = b) (Classical.propDecidable _)
theorem eqT_true {a b : Tree} : eqT a b = true ↔ a = b := by unfold eqT; exact @decide_eq_true_iff _ (Classical.propDecidable _)
theorem eqT_false {a b : Tree} : eqT a b = false ↔ a ≠ b := by unfold eqT; exact @decide_eq_false_iff_not _ (Classical.propDecidable _)
theorem eqT_self (a : Tree) : eqT a a = true := eqT_true.2 rfl
theorem eqT_comm (a b : Tree) : eqT a b = eqT b a := by
  cases h : eqT a b with
  | true => exact (eqT_true.2 (eqT_true.1 h).symm).symm
  | false => exact (eqT_false.2 (fun e => eqT_false.1 h e.symm)).symm
/-- whether the first children are equal -/
theorem eqT_kids {a b : Tree} (h1 : a.kind = b.kind) (h2 : a.num = b.num) (h3 : a.name = b.name) (h4 : a.len = b.len) : eqT a b = Tree.allTo (fun i => eqT (a.kid i) (b.kid i)) a.len := by
  cases h : Tree.allTo (fun i => eqT (a.kid i) (b.kid i)) a.len with
  | true => exact eqT_true.2 (Tree.eq_of h1 h2 h3 h4 (fun i hi => eqT_true.1 (Tree.allTo_iff.1 h i hi)))
  | false =>
    refine eqT_false.2 (fun e => ?_)
    subst e
    rw [Tree.allTo_iff.2 (fun i _ => eqT_self _)] at h
    cases h

/-- two boxes -/
abbrev wBB (w : World) (t u : Tree) (a a' : Option Addr) (c c' : Nat) : World := (w.alloc (.cells #[.int .u8 t.kind, .int .i64 t.num, .string t.name, .slice a t.len c] 43)).alloc (.cells #[.int .u8 u.kind, .int .i64 u.num, .string u.name, .slice a' u.len c'] 43)

theorem two_alloc {w : World} {o o' : Obj} : Below w.heap.size w ((w.alloc o).alloc o') := ((Below.refl _ _).alloc (Nat.le_refl _) _).alloc (by simp) _
theorem eqT_all {a b : Tree} (h1 : a.kind = b.kind) (h2 : a.num = b.num) (h3 : a.name.toList = b.name.toList) : eqT a b = (decide (a.len = b.len) && Tree.allTo (fun i => eqT (a.kid i) (b.kid i)) a.len) := by
  have h3' : a.name = b.name := ByteArray.ext (Array.toList_inj.1 (by rw [ByteArray.toList_eq, ByteArray.toList_eq] at h3; exact h3))
  by_cases h4 : a.len = b.len
  · rw [eqT_kids h1 h2 h3' h4, decide_eq_true h4, Bool.true_and]
  · rw [decide_eq_false h4, Bool.false_and]
    exact eqT_false.2 (fun e => h4 (by rw [e]))

end Go.Proofs.YtnegdmhmhdojbaaDoor

/-
  Contracts: the node at a path (packages ast and ontimeref12).
-/
namespace Go.Proofs.YtnegdmhmhdojbaaDoor
set_option linter.unusedVariables false
set_option linter.unusedSimpArgs false
open Go.RowKit
set_option maxRecDepth 100000

/-- the box of a node -/
abbrev boxObj (t : Tree) (a : Option Addr) (c : Nat) : Obj := .cells #[.int .u8 t.kind, .int .i64 t.num, .string t.name, .slice a t.len c] 43
/-- what stands for no node -/
def noTree : Tree := Tree.leaf 0 0 ⟨#[]⟩
/-- the node at a path, or none -/
def AtOk (t : Tree) (p : List Int) (w : World) (e : Ending) (w' : World) : Prop :=
  ∃ a c, e = .returned (.tuple #[((t.at p).getD noTree).val a c, .bool (t.at p).isSome]) ∧ Rep w' ((t.at p).getD noTree) a ∧ Below w.heap.size w w'

/-- the node at a path, or none, in new memory -/
def AtNew (t : Tree) (p : List Int) (w : World) (e : Ending) (w' : World) : Prop :=
  ∃ a c, e = .returned (.tuple #[((t.at p).getD noTree).val a c, .bool (t.at p).isSome]) ∧ RepIn (fun k => w.heap.size ≤ k) w' ((t.at p).getD noTree) a ∧ Below w.heap.size w w'

set_option maxHeartbeats 2000000 in
theorem at_new (t : Tree) (p : List Int) (w : World) (a : Option Addr) (c : Nat) (v : Value) (hr : Rep w t a) (hs : t.size ≤ 1000000) (hp : PathAt w v p) (hl : p.length ≤ 1000000) :
    Calls Tryd.prog 39 #[t.val a c, v] w (AtNew t p w) := by
  obtain ⟨pa, pc, rfl, hpk⟩ := hp.form
  have HPK := Lib.hid hpk
  have HR := Lib.hid hr
  have HS : Hid (t.size ≤ 1000000) := hs
  clear hpk hp hr hs
  go_enter Tryd.func39, Tryd.ntmps39
  go_wp2_with fail
  go_loopw [7, 10] (fun _ i wr => ∃ (j : Nat) (u : Tree) (b : Option Addr) (d : Nat), j ≤ p.length ∧ i = .int .i64 j ∧ t.at (p.take j) = some u ∧ Rep w u b ∧ u.size ≤ 1000000 ∧
      wr.heap[w.heap.size]? = some (.cells #[.int .u8 u.kind, .int .i64 u.num, .string u.name, .slice b u.len d] 43 (0, 0)) ∧
      wr.heap[w.heap.size + 1]? = some (.cells #[.int .u8 0, .int .i64 0, .string ⟨#[]⟩, .slice none 0 0] 43 (0, 0)) ∧ Below w.heap.size w wr) (fun _ i _ => p.length - (intOf i).toNat)
  case atStart =>
    refine ⟨0, t, a, c, Nat.zero_le _, rfl, rfl, HR.out, HS.out, ?_, ?_, two_alloc⟩
    · rw [Below.heap_alloc _ _ _ (by simp)]; exact World.alloc_heap_new w _
    · have := World.alloc_heap_new (w.alloc (boxObj t a c)) (boxObj noTree none 0)
      rw [World.size_alloc] at this
      exact this
  case round =>
    obtain ⟨j, u, b, d, hj, rfl, hat, hru, hus, hb0, hb1, hB⟩ := hrel
    have HAT := Lib.hid hat
    have HRU := Lib.hid hru
    have HB0 := Lib.hid hb0
    have HB1 := Lib.hid hb1
    obtain ⟨⟨x0, x1, x2, x3⟩, fx0, fx1, fx2, fx3⟩ := blk4 hb0
    obtain ⟨⟨y0, y1, y2, y3⟩, fy0, fy1, fy2, fy3⟩ := blk4 hb1
    clear hat hru hb0 hb1
    by_cases hlt : j < p.length
    · obtain ⟨pb, po, rfl, hpc, hpb, hcell⟩ := HPK.out j hlt
      have hcr := (hB.cell (p := ⟨pb, po + j, none⟩) hpb).trans hcell
      obtain ⟨k, hk⟩ : ∃ k, p.getD j 0 = k := ⟨_, rfl⟩
      rw [hk] at hcr
      have HK := Lib.hid hk
      clear hk hcell
      have HP1 := Lib.hid (take_next p j hlt)
      have HP2 := Lib.hid (List.take_append_drop (j + 1) p)
      by_cases hk0 : k < 0 ∨ (u.len : Int) ≤ k
      · have HNO : Hid (t.at p = none) := by
          have h1 : t.at (p.take (j + 1)) = none := by
            rw [HP1.out, Tree.at_snoc, HAT.out, HK.out]
            show (if 0 ≤ k ∧ k < (u.len : Int) then some (u.kid k.toNat) else none) = none
            rw [if_neg (by omega)]
          have h2 := Tree.at_none (q := p.drop (j + 1)) h1
          rw [HP2.out] at h2
          exact h2
        rcases hk0 with hk0 | hk0
        · go_wp2_with fail
          have HB9 := Lib.hid (set4_at (y0 := .int .u8 0) (y1 := .int .i64 0) (y2 := .string ⟨#[]⟩) (y3 := .slice none 0 0) HB1.out)
          obtain ⟨⟨z0, z1, z2, z3⟩, _⟩ := blk4 HB9.out
          refine bodyPost_ret (v := .tuple #[.agg #[.int .u8 0, .int .i64 0, .string ⟨#[]⟩, .slice none 0 0], .bool false]) (by simp [results, Tryd.results39, go_sem, z0, z1, z2, z3]) rfl ⟨none, 0, ?_, ?_, set4_below hB (by omega)⟩
          · rw [HNO.out]; rfl
          · rw [HNO.out]; exact RepIn.mk ⟨by decide, by decide, by decide, by decide⟩ (.inl rfl)
        · have hk2 : 0 ≤ k := by omega
          go_wp2_with fail
          have HB9 := Lib.hid (set4_at (y0 := .int .u8 0) (y1 := .int .i64 0) (y2 := .string ⟨#[]⟩) (y3 := .slice none 0 0) HB1.out)
          obtain ⟨⟨z0, z1, z2, z3⟩, _⟩ := blk4 HB9.out
          refine bodyPost_ret (v := .tuple #[.agg #[.int .u8 0, .int .i64 0, .string ⟨#[]⟩, .slice none 0 0], .bool false]) (by simp [results, Tryd.results39, go_sem, z0, z1, z2, z3]) rfl ⟨none, 0, ?_, ?_, set4_below hB (by omega)⟩
          · rw [HNO.out]; rfl
          · rw [HNO.out]; exact RepIn.mk ⟨by decide, by decide, by decide, by decide⟩ (.inl rfl)
      · obtain ⟨m, rfl⟩ := Int.eq_ofNat_of_zero_le (show 0 ≤ k by omega)
        have hm : m < u.len := by omega
        have hm0 : (0 : Int) ≤ (m : Int) := by omega
        have hm1 : (m : Int) < (u.len : Int) := by omega
        clear hk0
        rcases HRU.out.kids with h0 | ⟨ub, uo, rfl, hc⟩
        · omega
        obtain ⟨ai, ci, hn, hrk⟩ := hc m hm
        obtain ⟨f0, f1, f2, f3⟩ := hn.below hB hn.lt
        have hlen := HRU.out.fits.len
        clear hc
        have HSK : Hid ((u.kid m).size ≤ 1000000) := by have := Tree.size_kid hm; show _ ≤ _; omega
        have HAK : Hid (t.at (p.take (j + 1)) = some (u.kid m)) := by
          show _ = _
          rw [HP1.out, Tree.at_snoc, HAT.out, HK.out]
          show (if 0 ≤ (m : Int) ∧ (m : Int) < (u.len : Int) then some (u.kid (m : Int).toNat) else none) = _
          rw [if_pos ⟨hm0, hm1⟩, Int.toNat_natCast]
        have HRK := Lib.hid hrk
        clear hrk hn
        go_wp2_with fail
        go_roundw
        case rel => exact ⟨j + 1, u.kid m, ai, ci, by omega, by go_num, HAK.out, HRK.out, HSK.out, set4_at HB0.out, (set4_other (by omega)).trans HB1.out, set4_below hB (Nat.le_refl _)⟩
        case measure => simp [intOf]; omega
    · obtain rfl : j = p.length := by omega
      have HAT' : Hid (t.at p = some u) := by have := HAT.out; rw [List.take_length] at this; exact this
      have hz : w.heap.size + 1 < wr.heap.size := (Array.getElem?_eq_some_iff.1 HB1.out).1
      go_wp2_with fail
      refine (clone_any u _ b d (HRU.out.below hB) hus).mono ?_
      rintro e w2 ⟨a2, c2, rfl, hcp, hB2⟩
      have HCP := Lib.hid hcp
      have HB3 := Lib.hid (hB.trans (hB2.mono hB.size))
      have HB12 : Hid (w2.heap[w.heap.size + 1]? = some (.cells #[.int .u8 0, .int .i64 0, .string ⟨#[]⟩, .slice none 0 0] 43 (0, 0))) := (hB2.block _ hz).trans HB1.out
      have hz2 : w.heap.size + 1 < w2.heap.size := Nat.lt_of_lt_of_le hz hB2.size
      clear hcp hB2 x0 x1 x2 x3 fx0 fx1 fx2 fx3 y0 y1 y2 y3 fy0 fy1 fy2 fy3
      obtain ⟨⟨y0, y1, y2, y3⟩, fy0, fy1, fy2, fy3⟩ := blk4 HB12.out
      go_wp2_with fail
      have HB9 := Lib.hid (set4_at (y0 := .int .u8 u.kind) (y1 := .int .i64 u.num) (y2 := .string u.name) (y3 := .slice a2 u.len c2) HB12.out)
      obtain ⟨⟨z0, z1, z2, z3⟩, _⟩ := blk4 HB9.out
      refine bodyPost_ret (v := .tuple #[u.val a2 c2, .bool true]) (by simp [results, Tryd.results39, go_sem, z0, z1, z2, z3]) rfl ⟨a2, c2, ?_, ?_, set4_below HB3.out (by omega)⟩
      · rw [HAT'.out]; rfl
      · rw [HAT'.out]
        have hmv : ∀ k, wr.heap.size ≤ k → k < w2.heap.size → (set4 w2 (w.heap.size + 1) (.int .u8 u.kind) (.int .i64 u.num) (.string u.name) (.slice a2 u.len c2)).heap[k]? = w2.heap[k]? := fun k hk _ => set4_other (by omega)
        exact HCP.out.move hmv (fun k hk _ => by omega)
theorem at_any (t : Tree) (p : List Int) (w : World) (a : Option Addr) (c : Nat) (v : Value) (hr : Rep w t a) (hs : t.size ≤ 1000000) (hp : PathAt w v p) (hl : p.length ≤ 1000000) :
    Calls Tryd.prog 39 #[t.val a c, v] w (AtOk t p w) :=
  (at_new t p w a c v hr hs hp hl).mono fun _ _ ⟨a', c', h1, h2, h3⟩ => ⟨a', c', h1, h2.rep, h3⟩
end Go.Proofs.YtnegdmhmhdojbaaDoor
