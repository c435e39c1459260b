/-
  PrgTask: several texts in one (AreArrays, IsSmall, IsTask, PrgOk, PrgValid).
-/
import Derived.Test.YtgochgcchkdlmaaDoorTreeBase
import Derived.Test.YtgochgcchkdlmaaDoorLexAll
import Derived.Test.YtgochgcchkdlmaaDoorRefKinds
import Derived.Test.YtgochgcchkdlmaaDoorAstForms
import Derived.Test.YtgochgcchkdlmaaDoorAstSizes
import Derived.Test.YtgochgcchkdlmaaDoorRangeLaws
import Derived.OneCell
import Derived.Test.YtgochgcchkdlmaaDoorAstIsValids
/-
  Contracts: declarations of arrays, small trees (package ast), declarations of arrays (package ontimeref12).
-/
namespace Go.Proofs.YtgochgcchkdlmaaDoor
set_option linter.unusedVariables false
set_option linter.unusedSimpArgs false
open Go.RowKit
set_option maxRecDepth 100000

/-- names, and declarations of arrays -/
def nm (s : ByteArray) : Bool := Lx.name s.toList
def arrOk (x : Arr) : Bool := nm x.name && decide (1 ≤ x.len) && decide (x.len ≤ 32)

theorem noArray_any (x : Arr) (w : World) (h1 : x.name.size ≤ 9223372036854775807) (hg : SignsIn w) :
    Calls Tryd.prog 60 #[.agg #[.string x.name, .int .i64 x.len]] w fun e w' => e = .returned (.bool (!arrOk x)) ∧ Below w.heap.size w w' := by
  have hB0 : Below w.heap.size w (w.alloc (.cells #[.string x.name, .int .i64 x.len] 88)) := (Below.refl _ _).alloc (Nat.le_refl _) _
  have HG := Lib.hid (hg.below hB0)
  have HB0 := Lib.hid hB0
  clear hg hB0
  go_enter Tryd.func60, Tryd.ntmps60
  go_wp2_with fail
  refine (name_any x.name _ h1 HG.out).mono ?_
  rintro e w1 ⟨he, hB1⟩
  have HB1 := Lib.hid (HB0.out.trans (hB1.mono (by simp)))
  have f1 : w1.cell? ⟨w.heap.size, 1, none⟩ = some (.int .i64 x.len) := cell_below hB1 (World.cell?_alloc_new w _ _ 1)
  clear hB1
  cases hn : nm x.name with
  | false =>
    obtain rfl : e = .returned (.bool false) := by rw [he]; exact congrArg _ (congrArg _ hn)
    have HE : Hid (arrOk x = false) := by show _ = _; unfold arrOk; rw [hn]; rfl
    clear he hn
    go_wp2_with fail
    go_ret
    exact ⟨by rw [HE.out]; rfl, HB1.out⟩
  | true =>
    obtain rfl : e = .returned (.bool true) := by rw [he]; exact congrArg _ (congrArg _ hn)
    have HE : Hid (arrOk x = (decide (1 ≤ x.len) && decide (x.len ≤ 32))) := by show _ = _; unfold arrOk; rw [hn]; rfl
    clear he hn
    by_cases h2 : x.len < 1
    · have HE2 : Hid (arrOk x = false) := by have := HE.out; show _ = _; rw [this, decide_eq_false (by omega)]; rfl
      go_wp2_with fail
      go_ret
      exact ⟨by rw [HE2.out]; rfl, HB1.out⟩
    · have h2' : 1 ≤ x.len := by omega
      have h2d : decide (x.len < 1) = false := by simpa using h2'
      clear h2
      by_cases h3 : 32 < x.len
      · have h3d : decide (32 < x.len) = true := by simpa using h3
        have HE2 : Hid (arrOk x = false) := by have := HE.out; show _ = _; rw [this, decide_eq_false (p := x.len ≤ 32) (by omega)]; simp
        go_wp2_with fail
        go_ret
        exact ⟨by rw [HE2.out]; rfl, HB1.out⟩
      · have h3' : x.len ≤ 32 := by omega
        have h3d : decide (32 < x.len) = false := by simpa using h3'
        clear h3
        have HE2 : Hid (arrOk x = true) := by have := HE.out; show _ = _; rw [this, decide_eq_true (p := x.len ≤ 32) (by omega), decide_eq_true (by omega)]; rfl
        go_wp2_with fail
        go_ret
        exact ⟨by rw [HE2.out]; rfl, HB1.out⟩

set_option maxHeartbeats 1000000 in
theorem indexArray_any (l : List Arr) (w : World) (a : Option Addr) (c : Nat) (hl : ArrsAt w a l) (hg : SignsIn w) :
    Calls Tryd.prog 94 #[.slice a l.length c, .func (.func 60) #[] #[]] w (SomeIndex (l.all arrOk) w) := by
  have HL := Lib.hid hl.2
  have hlen := hl.1
  have HG := Lib.hid hg
  clear hl hg
  go_enter Tryd.func94, Tryd.ntmps94
  go_wp2_with fail
  go_loopw [8] (fun i wr => ∃ j : Nat, j ≤ l.length ∧ i = .int .i64 j ∧ (l.take j).all arrOk = true ∧ Below w.heap.size w wr) (fun i _ => l.length - (intOf i).toNat)
  case atStart => exact ⟨0, Nat.zero_le _, rfl, rfl, Below.refl _ _⟩
  case round =>
    obtain ⟨j, hj, rfl, hall, hB⟩ := hrel
    have HA := Lib.hid hall
    clear hall
    have hsz := hB.size
    by_cases hlt : j < l.length
    · obtain ⟨b, off, rfl, q1, q2, q3, q4⟩ := HL.out j hlt
      obtain ⟨x, hx⟩ : ∃ x, l.getD j Arr.none = x := ⟨_, rfl⟩
      rw [hx] at q1 q2 q3 q4
      have f1 := (hB.cell (p := ⟨b, off + j * 2, none⟩) (World.block_lt_of_cell? w _ q1)).trans q1
      have f2 := (hB.cell (p := ⟨b, off + j * 2 + 1, none⟩) (World.block_lt_of_cell? w _ q2)).trans q2
      have HX := Lib.hid hx
      clear hx q1 q2 q4
      go_wp2_with fail
      refine (noArray_any x _ q3 (HG.out.below hB)).mono ?_
      rintro e w1 ⟨rfl, hB1⟩
      have hB2 := hB.trans (hB1.mono hsz)
      clear hB1 f1 f2
      cases hv : arrOk x with
      | true =>
        have HN : Hid ((l.take (j + 1)).all arrOk = true) := by show _ = _; rw [all_next arrOk l Arr.none j hlt, HA.out, HX.out, hv]; rfl
        go_wp2_with fail
        go_roundw
        case rel => exact ⟨j + 1, by omega, by go_num, HN.out, hB2⟩
        case measure => simp [intOf]; omega
      | false =>
        have HN : Hid (l.all arrOk = false) := all_stop arrOk l Arr.none j hlt (by rw [HX.out, hv])
        go_wp2_with fail
        go_ret
        exact ⟨_, rfl, by rw [HN.out]; simp, hB2⟩
    · obtain rfl : j = l.length := by omega
      go_wp2_with fail
      go_ret
      exact ⟨_, rfl, by have := HA.out; rw [List.take_length] at this; rw [this]; rfl, hB⟩
theorem containsArray_any (l : List Arr) (w : World) (a : Option Addr) (c : Nat) (hl : ArrsAt w a l) (hg : SignsIn w) :
    Calls Tryd.prog 59 #[.slice a l.length c, .func (.func 60) #[] #[]] w fun e w' => e = .returned (.bool (!l.all arrOk)) ∧ Below w.heap.size w w' := by
  go_enter Tryd.func59, Tryd.ntmps59
  go_wp2_with fail
  refine (indexArray_any l _ a c hl hg).mono ?_
  rintro e w1 ⟨r, rfl, hq, hB1⟩
  have HQ := Lib.hid hq
  clear hq
  go_wp2_with fail
  go_ret
  exact ⟨ret_bool' HQ.out, hB1⟩
theorem areArrays_any (l : List Arr) (w : World) (a : Option Addr) (c : Nat) (hl : ArrsAt w a l) (hg : SignsIn w) :
    Calls Tryd.prog 43 #[.slice a l.length c] w fun e w' => e = .returned (.bool (l.all arrOk)) ∧ Below w.heap.size w w' := by
  go_enter Tryd.func43, Tryd.ntmps43
  go_wp2_with fail
  refine (containsArray_any l _ a c hl hg).mono ?_
  rintro e w1 ⟨rfl, hB1⟩
  go_wp2_with fail
  go_ret
  exact ⟨by simp, hB1⟩
end Go.Proofs.YtgochgcchkdlmaaDoor

/-
  Contract: trees within limits of depth and size (package ast).
-/
namespace Go.Proofs.YtgochgcchkdlmaaDoor
set_option linter.unusedVariables false
set_option linter.unusedSimpArgs false
open Go.RowKit
set_option maxRecDepth 100000

/-- whether a tree keeps limits; what is left -/
def SmallOk (t : Tree) (d L lb : Nat) (w : World) (e : Ending) (w' : World) : Prop :=
  ∃ (q : Bool) (L' : Int), e = .returned (.bool q) ∧ Keep (fun k => k = lb) w w' ∧ w'.heap[lb]? = some (.cells #[.int .i64 L'] 3 (0, 0)) ∧ q = decide (t.depth ≤ d ∧ t.size ≤ L) ∧ (q = true → L' = (L - t.size : Nat))

set_option maxHeartbeats 2000000 in
theorem isSmall_any : ∀ (t : Tree) (d L lb : Nat) (w : World) (a : Option Addr) (c : Nat), RepIn (fun k => k ≠ lb) w t a → d ≤ 1000 → L ≤ 1000000 → w.heap[lb]? = some (.cells #[.int .i64 (L : Nat)] 3 (0, 0)) →
    Calls Tryd.prog 62 #[t.val a c, .int .i64 (d : Nat), .pointer (some ⟨lb, 0, none⟩)] w (SmallOk t d L lb w) := by
  intro t
  induction t using Tree.ind with
  | h t ih =>
    intro d L lb w a c hr hd hL hlb
    have IH := Lib.hid ih
    have HR := Lib.hid hr
    have HLB := Lib.hid hlb
    have hlen := hr.fits.len
    have hlbs : lb < w.heap.size := (Array.getElem?_eq_some_iff.1 hlb).1
    have lc : w.cell? ⟨lb, 0, none⟩ = some (.int .i64 (L : Nat)) := cell_of_one hlb
    have lf : w.frozen? ⟨lb, 0, none⟩ = false := free_of_one hlb
    have HSE := Lib.hid t.size_eq
    have HDE := Lib.hid t.depth_eq
    have hpos := Tree.size_pos t
    clear ih hr hlb
    have HK0 : Hid (∀ v : Value, Keep (fun k => k = lb) w ((w.setCell ⟨lb, 0, none⟩ v).alloc (.cells #[.int .u8 t.kind, .int .i64 t.num, .string t.name, .slice a t.len c] 50))) := fun v => (Keep.setCell (O := fun k => k = lb) (b := lb) (Keep.refl _ w) rfl v).trans (Keep.ofBelow ((Below.refl _ _).alloc (Nat.le_refl _) _))
    have HL0 : Hid (∀ v : Value, ((w.setCell ⟨lb, 0, none⟩ v).alloc (.cells #[.int .u8 t.kind, .int .i64 t.num, .string t.name, .slice a t.len c] 50)).heap[lb]? = some (.cells #[v] 3 (0, 0))) := fun v => (Below.heap_alloc _ _ _ (by simpa using hlbs)).trans (one_setCell HLB.out)
    by_cases hd0 : d = 0
    · subst hd0
      have HQ : Hid (decide (t.depth ≤ 0 ∧ t.size ≤ L) = false) := decide_eq_false (fun h => by have := HDE.out; omega)
      go_enter Tryd.func62, Tryd.ntmps62
      go_wp2_with fail
      go_ret
      exact ⟨false, _, rfl, HK0.out _, HL0.out _, HQ.out.symm, fun h => (by cases h)⟩
    · have qd : ((d : Int) == 0) = false := by simpa using hd0
      have hd1 : 1 ≤ d := by omega
      clear hd0
      by_cases hL0 : L = 0
      · have HQ : Hid (decide (t.depth ≤ d ∧ t.size ≤ L) = false) := decide_eq_false (fun h => by omega)
        have hL1 : (L : Int) - 1 < 0 := by omega
        clear hL0
        go_enter Tryd.func62, Tryd.ntmps62
        go_wp2_with fail
        go_ret
        exact ⟨false, _, rfl, HK0.out _, HL0.out _, HQ.out.symm, fun h => (by cases h)⟩
      · have hL1 : 1 ≤ L := by omega
        clear hL0
        go_enter Tryd.func62, Tryd.ntmps62
        go_wp2_with fail
        go_loopw [25] (fun i wr => ∃ j : Nat, j ≤ t.len ∧ i = .int .i64 j ∧ Tree.maxTo (fun i => (t.kid i).depth) j < d ∧ Tree.sumTo (fun i => (t.kid i).size) j ≤ L - 1 ∧ wr.heap[lb]? = some (.cells #[.int .i64 ((L - 1 - Tree.sumTo (fun i => (t.kid i).size) j : Nat) : Int)] 3 (0, 0)) ∧ Keep (fun k => k = lb) w wr) (fun i _ => t.len - (intOf i).toNat)
        case atStart =>
          refine ⟨0, Nat.zero_le _, rfl, hd1, Nat.zero_le _, ?_, HK0.out _⟩
          rw [HL0.out]
          simp [Tree.sumTo]; omega
        case round =>
          obtain ⟨j, hj, rfl, hmax, hsum, hlw, hK⟩ := hrel
          have HK := Lib.hid hK
          have HLW := Lib.hid hlw
          have hsz := hK.size
          clear hlw hK
          by_cases hlt : j < t.len
          · rcases HR.out.kids with h0 | ⟨b, off, rfl, hSb, hc⟩
            · omega
            obtain ⟨ai, ci, hn, hrk⟩ := hc j hlt
            have hbW := hn.lt
            obtain ⟨f0, f1, f2, f3⟩ := hn.same (HK.out.block b hSb hbW)
            have HRK := Lib.hid hrk
            have HS1 := Lib.hid (Tree.sumTo_succ (fun i => (t.kid i).size) j)
            have HM1 := Lib.hid (Tree.maxTo_succ (fun i => (t.kid i).depth) j)
            have hsm := Tree.sumTo_le (f := fun i => (t.kid i).size) (show j + 1 ≤ t.len by omega)
            have hmm := Tree.maxTo_le (f := fun i => (t.kid i).depth) (show j + 1 ≤ t.len by omega)
            clear hc hn hrk
            go_wp2_with fail
            have HB2 : Hid (Below wr.heap.size wr (wr.alloc (.cells #[.int .u8 (t.kid j).kind, .int .i64 (t.kid j).num, .string (t.kid j).name, .slice ai (t.kid j).len ci] 50))) := (Below.refl _ _).alloc (Nat.le_refl _) _
            have hcast : (d : Int) - 1 = ((d - 1 : Nat) : Int) := by omega
            rw [hcast]
            clear hcast
            refine (IH.out j hlt (d - 1) (L - 1 - Tree.sumTo (fun i => (t.kid i).size) j) lb _ ai ci (HRK.out.move (fun k hk hl => (HB2.out.block k (by omega)).trans (HK.out.block k hk hl)) (fun _ h _ => h)) (by omega) (by omega) ((HB2.out.block lb (by omega)).trans HLW.out)).mono ?_
            rintro e w1 ⟨q, L', rfl, hK1, hl1, hq, hL'⟩
            have HK1 := Lib.hid ((HK.out.trans (Keep.ofBelow HB2.out)).trans hK1)
            have HL1 := Lib.hid hl1
            have HQ := Lib.hid hq
            have HL' := Lib.hid hL'
            clear hK1 hl1 hq hL'
            cases q with
            | true =>
              have hqq : (t.kid j).depth ≤ d - 1 ∧ (t.kid j).size ≤ L - 1 - Tree.sumTo (fun i => (t.kid i).size) j := of_decide_eq_true HQ.out.symm
              have HN1 : Hid (Tree.maxTo (fun i => (t.kid i).depth) (j + 1) < d) := by have := HM1.out; show _ < _; omega
              have HN2 : Hid (Tree.sumTo (fun i => (t.kid i).size) (j + 1) ≤ L - 1) := by have := HS1.out; show _ ≤ _; omega
              have HN3 : Hid (w1.heap[lb]? = some (.cells #[.int .i64 ((L - 1 - Tree.sumTo (fun i => (t.kid i).size) (j + 1) : Nat) : Int)] 3 (0, 0))) := by
                have h := HL1.out
                rw [HL'.out rfl] at h
                have e : L - 1 - Tree.sumTo (fun i => (t.kid i).size) j - (t.kid j).size = L - 1 - Tree.sumTo (fun i => (t.kid i).size) (j + 1) := by rw [HS1.out]; omega
                rw [e] at h
                exact h
              clear hqq hsm hmm
              go_wp2_with fail
              go_roundw
              case rel => exact ⟨j + 1, by omega, by go_num, HN1.out, HN2.out, HN3.out, HK1.out⟩
              case measure => simp [intOf]; omega
            | false =>
              have hqq : ¬ ((t.kid j).depth ≤ d - 1 ∧ (t.kid j).size ≤ L - 1 - Tree.sumTo (fun i => (t.kid i).size) j) := of_decide_eq_false HQ.out.symm
              have HN : Hid (decide (t.depth ≤ d ∧ t.size ≤ L) = false) := by
                refine decide_eq_false (fun h => hqq ?_)
                have h1 := HDE.out; have h2 := HSE.out; have h3 := HS1.out; have h4 := HM1.out
                constructor <;> omega
              clear hqq hsm hmm
              go_wp2_with fail
              go_ret
              exact ⟨false, _, rfl, HK1.out, HL1.out, HN.out.symm, fun h => (by cases h)⟩
          · obtain rfl : j = t.len := by omega
            have HN : Hid (decide (t.depth ≤ d ∧ t.size ≤ L) = true) := by
              refine decide_eq_true ?_
              have h1 := HDE.out; have h2 := HSE.out
              constructor <;> omega
            have HN3 : Hid (L - 1 - Tree.sumTo (fun i => (t.kid i).size) t.len = L - t.size) := by have h2 := HSE.out; show _ = _; omega
            go_wp2_with fail
            go_ret
            exact ⟨true, _, rfl, HK.out, HLW.out, HN.out.symm, fun _ => by rw [HN3.out]⟩
end Go.Proofs.YtgochgcchkdlmaaDoor

/-
  Contract: valid tasks (package ast).
-/
namespace Go.Proofs.YtgochgcchkdlmaaDoor
set_option linter.unusedVariables false
set_option linter.unusedSimpArgs false
open Go.RowKit
set_option maxRecDepth 100000

/-- a valid task -/
def tskOk (t : Tsk) : Bool := nm t.name && (decide (1 ≤ t.period) && (decide (t.period ≤ 1000) && (decide (t.vars.length ≤ 12) && (decide (t.arrays.length ≤ 4) && (t.arrays.all arrOk && (t.vars.all nm && (decide (t.body.depth ≤ 16 ∧ t.body.size ≤ 400) && (decide (t.body.nest ≤ 4) && t.body.vld 98))))))))

theorem Rep.toIn {w : World} : ∀ {t : Tree} {a : Option Addr}, Rep w t a → RepIn (fun k => k < w.heap.size) w t a := by
  intro t
  induction t using Tree.ind with
  | h t ih =>
    intro a h
    refine RepIn.mk h.fits ?_
    rcases h.kids with h0 | ⟨b, off, ha, hk⟩
    · exact .inl h0
    · by_cases hl : 0 < t.len
      · have hlt : b < w.heap.size := by obtain ⟨ai, ci, hn, _⟩ := hk 0 hl; exact hn.lt
        exact .inr ⟨b, off, ha, hlt, fun i hi => by obtain ⟨ai, ci, hn, hr⟩ := hk i hi; exact ⟨ai, ci, hn, ih i hi hr⟩⟩
      · exact .inl (by omega)

/-- the box of a task -/
abbrev tskObj (t : Tsk) (p : TskPlace) : Obj := .cells #[.string t.name, .int .i64 t.period, .slice p.va t.vars.length p.vc, .slice p.aa t.arrays.length p.ac, .int .u8 t.body.kind, .int .i64 t.body.num, .string t.body.name, .slice p.ka t.body.len p.kc] 52
theorem box8 {w wr : World} {x0 x1 x2 x3 x4 x5 x6 x7 : Value} {T : TypeId} (h : Below (w.heap.size + 1) (w.alloc (.cells #[x0, x1, x2, x3, x4, x5, x6, x7] T)) wr) :
    wr.cell? ⟨w.heap.size, 0, none⟩ = some x0 ∧ wr.cell? ⟨w.heap.size, 1, none⟩ = some x1 ∧ wr.cell? ⟨w.heap.size, 2, none⟩ = some x2 ∧ wr.cell? ⟨w.heap.size, 3, none⟩ = some x3 ∧
    wr.cell? ⟨w.heap.size, 4, none⟩ = some x4 ∧ wr.cell? ⟨w.heap.size, 5, none⟩ = some x5 ∧ wr.cell? ⟨w.heap.size, 6, none⟩ = some x6 ∧ wr.cell? ⟨w.heap.size, 7, none⟩ = some x7 :=
  ⟨box_cell h 0, box_cell h 1, box_cell h 2, box_cell h 3, box_cell h 4, box_cell h 5, box_cell h 6, box_cell h 7⟩

set_option maxHeartbeats 4000000 in
theorem isTask_any (t : Tsk) (p : TskPlace) (w : World) (ht : TskIn w t p) (hg : SignsIn w) :
    Calls Tryd.prog 44 #[.agg #[.string t.name, .int .i64 t.period, .slice p.va t.vars.length p.vc, .slice p.aa t.arrays.length p.ac, .int .u8 t.body.kind, .int .i64 t.body.num, .string t.body.name, .slice p.ka t.body.len p.kc]] w
      fun e w' => e = .returned (.bool (tskOk t)) ∧ Below w.heap.size w w' := by
  have HT := Lib.hid ht
  have HG := Lib.hid hg
  have HB0 : Hid (Below (w.heap.size + 1) (w.alloc (tskObj t p)) (w.alloc (tskObj t p))) := Below.refl _ _
  have HNM := Lib.hid ht.name
  have hvl := ht.vars.1
  have hal := ht.arrays.1
  clear ht hg
  go_enter Tryd.func44, Tryd.ntmps44
  go_wp2_with fail
  refine (name_any t.name _ HNM.out (HG.out.below (ofBox HB0.out))).mono ?_
  rintro e w1 ⟨he, hB1⟩
  have HB1 := Lib.hid (HB0.out.trans (hB1.mono (by simp)))
  obtain ⟨x0, x1, x2, x3, x4, x5, x6, x7⟩ := box8 HB1.out
  clear hB1
  cases hn : nm t.name with
  | false =>
    obtain rfl : e = .returned (.bool false) := by rw [he]; exact congrArg _ (congrArg _ hn)
    have HE : Hid (tskOk t = false) := by show _ = _; simp [tskOk, hn]
    clear he hn
    go_wp2_with fail
    go_ret
    exact ⟨by rw [HE.out]; rfl, ofBox HB1.out⟩
  | true =>
  obtain rfl : e = .returned (.bool true) := by rw [he]; exact congrArg _ (congrArg _ hn)
  have HN := Lib.hid hn
  clear he hn
  by_cases h1 : t.period < 1
  · have HE : Hid (tskOk t = false) := by show _ = _; simp [tskOk, show ¬ 1 ≤ t.period by omega]
    go_wp2_with fail
    go_ret
    exact ⟨by rw [HE.out]; rfl, ofBox HB1.out⟩
  have h1' : 1 ≤ t.period := by omega
  have h1d : decide (t.period < 1) = false := by simpa using h1'
  clear h1
  by_cases h2 : 1000 < t.period
  · have h2d : decide (1000 < t.period) = true := by simpa using h2
    have HE : Hid (tskOk t = false) := by show _ = _; simp [tskOk, show ¬ t.period ≤ 1000 by omega]
    go_wp2_with fail
    go_ret
    exact ⟨by rw [HE.out]; rfl, ofBox HB1.out⟩
  have h2' : t.period ≤ 1000 := by omega
  have h2d : decide (1000 < t.period) = false := by simpa using h2'
  clear h2
  by_cases h3 : 12 < t.vars.length
  · have h3d : decide (12 < t.vars.length) = true := by simpa using h3
    have h3i : decide ((12 : Int) < (t.vars.length : Int)) = true := by simp; omega
    have HE : Hid (tskOk t = false) := by show _ = _; simp [tskOk, show ¬ t.vars.length ≤ 12 by omega]
    go_wp2_with fail
    go_ret
    exact ⟨by rw [HE.out]; rfl, ofBox HB1.out⟩
  have h3' : t.vars.length ≤ 12 := by omega
  have h3d : decide (12 < t.vars.length) = false := by simpa using h3'
  have h3i : decide ((12 : Int) < (t.vars.length : Int)) = false := by simp; omega
  clear h3
  by_cases h4 : 4 < t.arrays.length
  · have h4d : decide (4 < t.arrays.length) = true := by simpa using h4
    have h4i : decide ((4 : Int) < (t.arrays.length : Int)) = true := by simp; omega
    have HE : Hid (tskOk t = false) := by show _ = _; simp [tskOk, show ¬ t.arrays.length ≤ 4 by omega]
    go_wp2_with fail
    go_ret
    exact ⟨by rw [HE.out]; rfl, ofBox HB1.out⟩
  have h4' : t.arrays.length ≤ 4 := by omega
  have h4d : decide (4 < t.arrays.length) = false := by simpa using h4'
  have h4i : decide ((4 : Int) < (t.arrays.length : Int)) = false := by simp; omega
  clear h4
  go_wp2_with fail
  refine (areArrays_any t.arrays _ p.aa p.ac (HT.out.arrays.below (ofBox HB1.out)) (HG.out.below (ofBox HB1.out))).mono ?_
  rintro e w2 ⟨rfl, hB2⟩
  have HB2 := Lib.hid (HB1.out.trans (hB2.mono (box_size HB1.out)))
  clear hB2 x0 x1 x2 x3 x4 x5 x6 x7
  obtain ⟨x0, x1, x2, x3, x4, x5, x6, x7⟩ := box8 HB2.out
  cases ha : t.arrays.all arrOk with
  | false =>
    have HE : Hid (tskOk t = false) := by show _ = _; simp only [tskOk, ha]; simp
    clear ha
    go_wp2_with fail
    go_ret
    exact ⟨by rw [HE.out]; rfl, ofBox HB2.out⟩
  | true =>
  have HAA := Lib.hid ha
  clear ha
  go_wp2_with fail
  go_loopw [4, 39] (fun _ i wr => ∃ j : Nat, j ≤ t.vars.length ∧ i = .int .i64 j ∧ (t.vars.take j).all nm = true ∧ Below (w.heap.size + 1) (w.alloc (tskObj t p)) wr) (fun _ i _ => t.vars.length - (intOf i).toNat)
  case atStart => exact ⟨0, Nat.zero_le _, rfl, rfl, HB2.out⟩
  case round =>
    obtain ⟨j, hj, rfl, hall, hBx⟩ := hrel
    have HA := Lib.hid hall
    have HBX := Lib.hid hBx
    have hB := ofBox hBx
    clear hall x0 x1 x2 x3 x4 x5 x6 x7
    by_cases hlt : j < t.vars.length
    · obtain ⟨b, off, hva, q1, q2⟩ := HT.out.vars.2 j hlt
      obtain ⟨s, hs⟩ : ∃ s, t.vars.getD j ⟨#[]⟩ = s := ⟨_, rfl⟩
      rw [hs] at q1 q2
      have f1 := (hB.cell (p := ⟨b, off + j, none⟩) (World.block_lt_of_cell? w _ q1)).trans q1
      have HX := Lib.hid hs
      clear hs q1 hBx
      rw [hva]
      go_wp2_with fail
      refine (name_any s _ q2 (HG.out.below hB)).mono ?_
      rintro e w3 ⟨he, hB3⟩
      have HB3 := Lib.hid (HBX.out.trans (hB3.mono (box_size HBX.out)))
      clear hB3
      cases hn : nm s with
      | false =>
        obtain rfl : e = .returned (.bool false) := by rw [he]; exact congrArg _ (congrArg _ hn)
        have HE : Hid (tskOk t = false) := by show _ = _; simp only [tskOk, all_stop nm t.vars ⟨#[]⟩ j hlt (by rw [HX.out, hn])]; simp
        clear he hn
        go_wp2_with fail
        go_ret
        exact ⟨by rw [HE.out]; rfl, ofBox HB3.out⟩
      | true =>
        obtain rfl : e = .returned (.bool true) := by rw [he]; exact congrArg _ (congrArg _ hn)
        have HN2 : Hid ((t.vars.take (j + 1)).all nm = true) := by show _ = _; rw [all_next nm t.vars ⟨#[]⟩ j hlt, HA.out, HX.out, hn]; rfl
        clear he hn
        go_wp2_with fail
        go_roundw
        case rel => exact ⟨j + 1, by omega, by go_num, HN2.out, HB3.out⟩
        case measure => simp [intOf]; omega
    · obtain rfl : j = t.vars.length := by omega
      have HV : Hid (t.vars.all nm = true) := by have := HA.out; rw [List.take_length] at this; exact this
      obtain ⟨x0, x1, x2, x3, x4, x5, x6, x7⟩ := box8 HBX.out
      have hzr := box_size HBX.out
      have hzl : w.heap.size < wr.heap.size := by omega
      clear hBx HA
      go_wp2_with fail
      have HBL : Hid (Below wr.heap.size wr (wr.alloc (.cells #[.int .i64 400] 3))) := (Below.refl _ _).alloc (Nat.le_refl _) _
      refine (isSmall_any t.body 16 400 wr.heap.size _ p.ka p.kc ((HT.out.body.below hB).toIn.move (fun k hk _ => HBL.out.block k hk) (fun k hk _ => by omega)) (by omega) (by omega) (World.alloc_heap_new wr _)).mono ?_
      rintro e w4 ⟨q, L', rfl, hK4, hl4, hq, hL4⟩
      have hBW4 : Below wr.heap.size wr w4 := HBL.out.trans (hK4.below (by simp) (fun k hk => by omega))
      have HB4 := Lib.hid (HBX.out.trans (hBW4.mono hzr))
      clear hK4 hl4 hL4 hBW4 x0 x1 x2 x3 x4 x5 x6 x7
      obtain ⟨x0, x1, x2, x3, x4, x5, x6, x7⟩ := box8 HB4.out
      cases q with
      | false =>
        have HE : Hid (tskOk t = false) := by show _ = _; simp only [tskOk, ← hq]; simp
        clear hq
        go_wp2_with fail
        go_ret
        exact ⟨by rw [HE.out]; rfl, ofBox HB4.out⟩
      | true =>
        have hsm : t.body.depth ≤ 16 ∧ t.body.size ≤ 400 := of_decide_eq_true hq.symm
        have HQ := Lib.hid hq
        have hnb := Tree.nest_le_depth t.body
        clear hq
        go_wp2_with fail
        refine (nest_any t.body _ p.ka p.kc (HT.out.body.below (ofBox HB4.out)) (by omega)).mono ?_
        rintro e w5 ⟨rfl, hB5⟩
        have HB5 := Lib.hid (HB4.out.trans (hB5.mono (box_size HB4.out)))
        clear hB5 x0 x1 x2 x3 x4 x5 x6 x7
        obtain ⟨x0, x1, x2, x3, x4, x5, x6, x7⟩ := box8 HB5.out
        by_cases hn4 : t.body.nest ≤ 4
        · have hn4d : decide ((t.body.nest : Int) ≤ 4) = true := by simp; omega
          go_wp2_with fail
          refine (isBlock_any t.body _ p.ka p.kc (HT.out.body.below (ofBox HB5.out)) (HG.out.below (ofBox HB5.out))).mono ?_
          rintro e w6 ⟨rfl, hB6⟩
          have HB6 := Lib.hid (HB5.out.trans (hB6.mono (box_size HB5.out)))
          clear hB6
          have HE : Hid (tskOk t = t.body.vld 98) := by show _ = _; simp only [tskOk, HN.out, HAA.out, HV.out, ← HQ.out, h1', h2', h3', h4', hn4]; simp
          go_wp2_with fail
          go_ret
          exact ⟨by rw [HE.out]; rfl, ofBox HB6.out⟩
        · have hn4d : decide ((t.body.nest : Int) ≤ 4) = false := by simp; omega
          have HE : Hid (tskOk t = false) := by show _ = _; simp [tskOk, hn4]
          go_wp2_with fail
          go_ret
          exact ⟨by rw [HE.out]; rfl, ofBox HB5.out⟩
end Go.Proofs.YtgochgcchkdlmaaDoor

/-
  Contract: valid programs (package ast).
-/
namespace Go.Proofs.YtgochgcchkdlmaaDoor
set_option linter.unusedVariables false
set_option linter.unusedSimpArgs false
open Go.RowKit
set_option maxRecDepth 100000

/-- a valid program -/
def prgOk (p : Prg) : Bool := decide (p.shared.length ≤ 4) && (decide (p.tasks.length ≤ 8) && (p.shared.all arrOk && p.tasks.all tskOk))
/-- the box of a program -/
abbrev prgObj (p : Prg) (sa : Option Addr) (sc : Nat) (ta : Option Addr) (tc : Nat) : Obj := .cells #[.slice sa p.shared.length sc, .slice ta p.tasks.length tc] 25
/-- a task's cells in a later world -/
theorem tsk_cells {w wr : World} {b o : Nat} {t : Tsk} {p : TskPlace} (hB : Below w.heap.size w wr) (h : ∀ i, i < 8 → w.cell? ⟨b, o + i, none⟩ = (t.cells p)[i]?) :
    (wr.cell? ⟨b, o, none⟩ = some (.string t.name) ∧ wr.cell? ⟨b, o + 1, none⟩ = some (.int .i64 t.period) ∧ wr.cell? ⟨b, o + 2, none⟩ = some (.slice p.va t.vars.length p.vc) ∧ wr.cell? ⟨b, o + 3, none⟩ = some (.slice p.aa t.arrays.length p.ac) ∧
    wr.cell? ⟨b, o + 4, none⟩ = some (.int .u8 t.body.kind) ∧ wr.cell? ⟨b, o + 5, none⟩ = some (.int .i64 t.body.num) ∧ wr.cell? ⟨b, o + 6, none⟩ = some (.string t.body.name) ∧ wr.cell? ⟨b, o + 7, none⟩ = some (.slice p.ka t.body.len p.kc)) ∧ b < wr.heap.size := by
  have c0 : wr.cell? ⟨b, o, none⟩ = some (.string t.name) := cell_below hB (h 0 (by omega))
  exact ⟨⟨c0, cell_below hB (h 1 (by omega)), cell_below hB (h 2 (by omega)), cell_below hB (h 3 (by omega)), cell_below hB (h 4 (by omega)), cell_below hB (h 5 (by omega)), cell_below hB (h 6 (by omega)), cell_below hB (h 7 (by omega))⟩, World.block_lt_of_cell? wr _ c0⟩

set_option maxHeartbeats 2000000 in
theorem valid_any (p : Prg) (w : World) (sa ta : Option Addr) (sc tc : Nat) (hp : PrgAt w p sa ta) (hg : SignsIn w) :
    Calls Tryd.prog 22 #[p.val sa sc ta tc] w fun e w' => e = .returned (.bool (prgOk p)) ∧ Below w.heap.size w w' := by
  have HP := Lib.hid hp
  have HG := Lib.hid hg
  have HB0 : Hid (Below (w.heap.size + 1) (w.alloc (prgObj p sa sc ta tc)) (w.alloc (prgObj p sa sc ta tc))) := Below.refl _ _
  have hsl := hp.1.1
  have htl := hp.2.1
  clear hp hg
  by_cases h1 : 4 < p.shared.length
  · have h1d : decide (4 < p.shared.length) = true := by simpa using h1
    have h1di : decide ((4 : Int) < (p.shared.length : Int)) = true := by simp; omega
    have HE : Hid (prgOk p = false) := by show _ = _; simp [prgOk, show ¬ p.shared.length ≤ 4 by omega]
    go_enter Tryd.func22, Tryd.ntmps22
    go_wp2_with fail
    go_ret
    exact ⟨by rw [HE.out]; rfl, ofBox HB0.out⟩
  have h1' : p.shared.length ≤ 4 := by omega
  have h1d : decide (4 < p.shared.length) = false := by simpa using h1'
  have h1di : decide ((4 : Int) < (p.shared.length : Int)) = false := by simp; omega
  clear h1
  by_cases h2 : 8 < p.tasks.length
  · have h2d : decide (8 < p.tasks.length) = true := by simpa using h2
    have h2di : decide ((8 : Int) < (p.tasks.length : Int)) = true := by simp; omega
    have HE : Hid (prgOk p = false) := by show _ = _; simp [prgOk, show ¬ p.tasks.length ≤ 8 by omega]
    go_enter Tryd.func22, Tryd.ntmps22
    go_wp2_with fail
    go_ret
    exact ⟨by rw [HE.out]; rfl, ofBox HB0.out⟩
  have h2' : p.tasks.length ≤ 8 := by omega
  have h2d : decide (8 < p.tasks.length) = false := by simpa using h2'
  have h2di : decide ((8 : Int) < (p.tasks.length : Int)) = false := by simp; omega
  clear h2
  go_enter Tryd.func22, Tryd.ntmps22
  go_wp2_with fail
  refine (areArrays_any p.shared _ sa sc (HP.out.1.below (ofBox HB0.out)) (HG.out.below (ofBox HB0.out))).mono ?_
  rintro e w1 ⟨rfl, hB1⟩
  have HB1 := Lib.hid (HB0.out.trans (hB1.mono (box_size HB0.out)))
  have x1 : w1.cell? ⟨w.heap.size, 1, none⟩ = some (.slice ta p.tasks.length tc) := box_cell HB1.out 1
  clear hB1
  cases ha : p.shared.all arrOk with
  | false =>
    have HE : Hid (prgOk p = false) := by show _ = _; simp only [prgOk, ha]; simp
    clear ha
    go_wp2_with fail
    go_ret
    exact ⟨by rw [HE.out]; rfl, ofBox HB1.out⟩
  | true =>
  have HAA := Lib.hid ha
  clear ha
  go_wp2_with fail
  go_loopw [24] (fun i wr => ∃ j : Nat, j ≤ p.tasks.length ∧ i = .int .i64 j ∧ (p.tasks.take j).all tskOk = true ∧ Below (w.heap.size + 1) (w.alloc (prgObj p sa sc ta tc)) wr) (fun i _ => p.tasks.length - (intOf i).toNat)
  case atStart => exact ⟨0, Nat.zero_le _, rfl, rfl, HB1.out⟩
  case round =>
    obtain ⟨j, hj, rfl, hall, hBx⟩ := hrel
    have HA := Lib.hid hall
    have HBX := Lib.hid hBx
    have hB := ofBox hBx
    have hsz := box_size hBx
    clear hall hBx x1
    by_cases hlt : j < p.tasks.length
    · obtain ⟨b, off, q, rfl, hc, hin⟩ := HP.out.2.2 j hlt
      obtain ⟨t, ht⟩ : ∃ t, p.tasks.getD j Tsk.none = t := ⟨_, rfl⟩
      rw [ht] at hc hin
      obtain ⟨⟨g0, g1, g2, g3, g4, g5, g6, g7⟩, hbl⟩ := tsk_cells hB hc
      have HX := Lib.hid ht
      have HIN := Lib.hid hin
      clear hc hin ht
      go_wp2_with fail
      have HBL : Hid (Below wr.heap.size wr (wr.alloc (tskObj t q))) := (Below.refl _ _).alloc (Nat.le_refl _) _
      refine (isTask_any t q _ ((HIN.out.below hB).below HBL.out) ((HG.out.below hB).below HBL.out)).mono ?_
      rintro e w2 ⟨rfl, hB2⟩
      have HB2 := Lib.hid ((HBX.out.trans (HBL.out.mono hsz)).trans (hB2.mono (Nat.le_trans hsz HBL.out.size)))
      clear hB2 g0 g1 g2 g3 g4 g5 g6 g7
      cases hv : tskOk t with
      | true =>
        have HN : Hid ((p.tasks.take (j + 1)).all tskOk = true) := by show _ = _; rw [all_next tskOk p.tasks Tsk.none j hlt, HA.out, HX.out, hv]; rfl
        clear hv
        go_wp2_with fail
        go_roundw
        case rel => exact ⟨j + 1, by omega, by go_num, HN.out, HB2.out⟩
        case measure => simp [intOf]; omega
      | false =>
        have HE : Hid (prgOk p = false) := by show _ = _; simp only [prgOk, all_stop tskOk p.tasks Tsk.none j hlt (by rw [HX.out, hv])]; simp
        clear hv
        go_wp2_with fail
        go_ret
        exact ⟨by rw [HE.out]; rfl, ofBox HB2.out⟩
    · obtain rfl : j = p.tasks.length := by omega
      have HE : Hid (prgOk p = true) := by
        have := HA.out; rw [List.take_length] at this
        show _ = _; simp only [prgOk, this, HAA.out, h1', h2']; simp
      go_wp2_with fail
      go_ret
      exact ⟨by rw [HE.out]; rfl, hB⟩

end Go.Proofs.YtgochgcchkdlmaaDoor

/-
  Contracts: programs beyond the statements' limits (package ontimelaw12).
-/
namespace Go.Proofs.YtgochgcchkdlmaaDoor
set_option linter.unusedVariables false
set_option linter.unusedSimpArgs false
open Go.RowKit
set_option maxRecDepth 100000

/-- a program beyond the statements' limits -/
noncomputable def tskGreat (t : Tsk) : Bool := decide (20 < t.vars.length) || (decide (10 < t.arrays.length) || @decide t.body.big (Classical.propDecidable _))
noncomputable def prgGreat (p : Prg) : Bool := decide (10 < p.shared.length) || (decide (10 < p.tasks.length) || p.tasks.any tskGreat)
theorem any_next {α : Type} (f : α → Bool) (l : List α) (d : α) (j : Nat) (h : j < l.length) : (l.take (j + 1)).any f = ((l.take j).any f || f (l.getD j d)) := by
  rw [List.take_succ_eq_append_getElem h, List.any_append]
  simp [h]
theorem any_hit {α : Type} (f : α → Bool) (l : List α) (d : α) (j : Nat) (h : j < l.length) (hf : f (l.getD j d) = true) : l.any f = true := by
  rw [List.any_eq_true]
  refine ⟨l.getD j d, ?_, hf⟩
  simp [h]

noncomputable def greatN (p : Prg) : Int := if prgGreat p then 1 else 0

set_option maxHeartbeats 2000000 in
theorem great_any (p : Prg) (w : World) (sa ta : Option Addr) (sc tc : Nat) (hp : PrgAt w p sa ta) :
    Calls Tryd.prog 32 #[p.val sa sc ta tc] w fun e w' => e = .returned (.int .i64 (greatN p)) ∧ Below w.heap.size w w' := by
  have HP := Lib.hid hp
  have HB0 : Hid (Below (w.heap.size + 1) (w.alloc (prgObj p sa sc ta tc)) (w.alloc (prgObj p sa sc ta tc))) := Below.refl _ _
  have hsl := hp.1.1
  have htl := hp.2.1
  clear hp
  by_cases h1 : 10 < p.shared.length
  · have h1d : decide (10 < p.shared.length) = true := by simpa using h1
    have h1di : decide ((10 : Int) < (p.shared.length : Int)) = true := by simp; omega
    have HE : Hid (prgGreat p = true) := by show _ = _; simp [prgGreat, h1]
    go_enter Tryd.func32, Tryd.ntmps32
    go_wp2_with fail
    go_ret
    exact ⟨ret_int (by unfold greatN; rw [HE.out]; rfl), ofBox HB0.out⟩
  have h1' : p.shared.length ≤ 10 := by omega
  have h1d : decide (10 < p.shared.length) = false := by simpa using h1'
  have h1di : decide ((10 : Int) < (p.shared.length : Int)) = false := by simp; omega
  clear h1
  by_cases h2 : 10 < p.tasks.length
  · have h2d : decide (10 < p.tasks.length) = true := by simpa using h2
    have h2di : decide ((10 : Int) < (p.tasks.length : Int)) = true := by simp; omega
    have HE : Hid (prgGreat p = true) := by show _ = _; simp [prgGreat, h2]
    go_enter Tryd.func32, Tryd.ntmps32
    go_wp2_with fail
    go_ret
    exact ⟨ret_int (by unfold greatN; rw [HE.out]; rfl), ofBox HB0.out⟩
  have h2' : p.tasks.length ≤ 10 := by omega
  have h2d : decide (10 < p.tasks.length) = false := by simpa using h2'
  have h2di : decide ((10 : Int) < (p.tasks.length : Int)) = false := by simp; omega
  clear h2
  go_enter Tryd.func32, Tryd.ntmps32
  go_wp2_with fail
  go_loopw [18] (fun i wr => ∃ j : Nat, j ≤ p.tasks.length ∧ i = .int .i64 j ∧ (p.tasks.take j).any tskGreat = false ∧ Below (w.heap.size + 1) (w.alloc (prgObj p sa sc ta tc)) wr) (fun i _ => p.tasks.length - (intOf i).toNat)
  case atStart => exact ⟨0, Nat.zero_le _, rfl, rfl, HB0.out⟩
  case round =>
    obtain ⟨j, hj, rfl, hall, hBx⟩ := hrel
    have HA := Lib.hid hall
    have HBX := Lib.hid hBx
    have hB := ofBox hBx
    have hsz := box_size hBx
    clear hall hBx
    by_cases hlt : j < p.tasks.length
    · obtain ⟨b, off, q, rfl, hc, hin⟩ := HP.out.2.2 j hlt
      obtain ⟨t, ht⟩ : ∃ t, p.tasks.getD j Tsk.none = t := ⟨_, rfl⟩
      rw [ht] at hc hin
      obtain ⟨⟨g0, g1, g2, g3, g4, g5, g6, g7⟩, hbl⟩ := tsk_cells hB hc
      have HX := Lib.hid ht
      have HIN := Lib.hid hin
      have hvl := hin.vars.1
      have hal := hin.arrays.1
      have HBL : Hid (Below wr.heap.size wr (wr.alloc (tskObj t q))) := (Below.refl _ _).alloc (Nat.le_refl _) _
      have HB2 := Lib.hid (HBX.out.trans (HBL.out.mono hsz))
      clear hc hin ht
      by_cases k1 : 20 < t.vars.length
      · have k1d : decide (20 < t.vars.length) = true := by simpa using k1
        have k1di : decide ((20 : Int) < (t.vars.length : Int)) = true := by simp; omega
        have HE : Hid (prgGreat p = true) := by show _ = _; simp only [prgGreat, any_hit tskGreat p.tasks Tsk.none j hlt (by rw [HX.out]; simp [tskGreat, k1])]; simp
        go_wp2_with fail
        go_ret
        exact ⟨ret_int (by unfold greatN; rw [HE.out]; rfl), ofBox HB2.out⟩
      have k1' : t.vars.length ≤ 20 := by omega
      have k1d : decide (20 < t.vars.length) = false := by simpa using k1'
      have k1di : decide ((20 : Int) < (t.vars.length : Int)) = false := by simp; omega
      clear k1
      by_cases k2 : 10 < t.arrays.length
      · have k2d : decide (10 < t.arrays.length) = true := by simpa using k2
        have k2di : decide ((10 : Int) < (t.arrays.length : Int)) = true := by simp; omega
        have HE : Hid (prgGreat p = true) := by show _ = _; simp only [prgGreat, any_hit tskGreat p.tasks Tsk.none j hlt (by rw [HX.out]; simp [tskGreat, k2])]; simp
        go_wp2_with fail
        go_ret
        exact ⟨ret_int (by unfold greatN; rw [HE.out]; rfl), ofBox HB2.out⟩
      have k2' : t.arrays.length ≤ 10 := by omega
      have k2d : decide (10 < t.arrays.length) = false := by simpa using k2'
      have k2di : decide ((10 : Int) < (t.arrays.length : Int)) = false := by simp; omega
      clear k2
      go_wp2_with fail
      by_cases hbig : t.body.big
      · refine (big_yes t.body _ q.ka q.kc ((HIN.out.body.below hB).below HBL.out) hbig).mono ?_
        rintro e w2 ⟨rfl, hB2⟩
        have HB3 := Lib.hid (HB2.out.trans (hB2.mono (box_size HB2.out)))
        have HE : Hid (prgGreat p = true) := by show _ = _; simp only [prgGreat, any_hit tskGreat p.tasks Tsk.none j hlt (by rw [HX.out]; simp [tskGreat, hbig])]; simp
        clear hB2 g0 g1 g2 g3 g4 g5 g6 g7
        go_wp2_with fail
        go_ret
        exact ⟨ret_int (by unfold greatN; rw [HE.out]; rfl), ofBox HB3.out⟩
      · refine (big_no t.body _ q.ka q.kc ((HIN.out.body.below hB).below HBL.out) hbig).mono ?_
        rintro e w2 ⟨rfl, hB2⟩
        have HB3 := Lib.hid (HB2.out.trans (hB2.mono (box_size HB2.out)))
        have HN : Hid ((p.tasks.take (j + 1)).any tskGreat = false) := by
          show _ = _; rw [any_next tskGreat p.tasks Tsk.none j hlt, HA.out, HX.out]
          simp [tskGreat, hbig, k1', k2']
        clear hB2 g0 g1 g2 g3 g4 g5 g6 g7
        go_wp2_with fail
        go_roundw
        case rel => exact ⟨j + 1, by omega, by go_num, HN.out, HB3.out⟩
        case measure => simp [intOf]; omega
    · obtain rfl : j = p.tasks.length := by omega
      have HE : Hid (prgGreat p = false) := by
        have := HA.out; rw [List.take_length] at this
        show _ = _; simp only [prgGreat, this]; simp; omega
      go_wp2_with fail
      go_ret
      exact ⟨ret_int (by unfold greatN; rw [HE.out]; rfl), hB⟩
end Go.Proofs.YtgochgcchkdlmaaDoor
