/-
  Mg17: several texts in one (AstIsValid, Kinds).
-/
import Derived.Test.YtkpdngfkdmllkaaDoorMg13
/-
  Contract: isValid reports whether a tree is a valid one of a category (package ast).
-/
namespace Go.Proofs.YtkpdngfkdmllkaaDoor
set_option linter.unusedVariables false
set_option linter.unusedSimpArgs false
open Go.RowKit
set_option maxRecDepth 100000

/-- kinds, numbers, names, children's slice, as cells -/
abbrev Tree.cells (t : Tree) (a : Option Addr) (c : Nat) : Array Value := #[.int .u8 t.kind, .int .i64 t.num, .string t.name, .slice a t.len c]

set_option maxHeartbeats 1000000 in
theorem isValid_no (t : Tree) (w : World) (a : Option Addr) (c : Nat) (k : Int) (hr : Rep w t a) (hk : Fm.cat k) (hb : Fm.belongs t.kind k = false) :
    Calls Tryd.prog 73 #[t.val a c, .int .u8 k] w fun e w' => e = .returned (.bool (t.vld k)) ∧ Below w.heap.size w w' := by
  have hf := hr.fits.kind
  have HV : Hid (t.vld k = false) := by show _ = _; rw [t.vld_eq, hb]; rfl
  clear hr
  go_enter Tryd.func73, Tryd.ntmps73
  go_wp2_with (go_at_call 93; refine (belongs_any _ _ hf hk _).mono ?_; rintro e w1 ⟨rfl, rfl⟩)
  go_ret
  exact ⟨ret_bool' HV.out.symm, (Below.refl _ _).alloc (Nat.le_refl _) _⟩

set_option maxHeartbeats 1000000 in
theorem isValid_block {t : Tree} (H : ∀ i, i < t.len → ValidAt (t.kid i)) (w : World) (a : Option Addr) (c : Nat) (k : Int) (hr : Rep w t a) (hk : Fm.cat k) (hg : SignsIn w) (hb : Fm.belongs t.kind k = true) (h47 : t.kind = 47) :
    Calls Tryd.prog 73 #[t.val a c, .int .u8 k] w fun e w' => e = .returned (.bool (t.vld k)) ∧ Below w.heap.size w w' := by
  have hf := hr.fits.kind
  have q47 : (t.kind == 47) = true := by simpa using h47
  have HV : Hid (t.vld k = ((t.num == 0) && t.name.toList.isEmpty && Tree.allTo (fun i => (t.kid i).vld 115) t.len)) := by show _ = _; rw [t.vld_eq, hb, if_pos h47]; rfl
  clear h47
  have hB0 : Below w.heap.size w (w.alloc (.cells (t.cells a c) 35)) := (Below.refl _ _).alloc (Nat.le_refl _) _
  have HR := Lib.hid (hr.below hB0)
  have HG := Lib.hid (hg.below hB0)
  have HH := Lib.hid H
  clear hr hg H
  cases hn : (t.num == 0) with
  | false =>
    go_enter Tryd.func73, Tryd.ntmps73
    go_wp2_with (go_at_call 93; refine (belongs_any _ _ hf hk _).mono ?_; rintro e w1 ⟨rfl, rfl⟩)
    go_ret
    exact ⟨ret_bool' (by rw [HV.out, hn]; rfl), hB0⟩
  | true =>
    cases hs : t.name.toList.isEmpty with
    | false =>
      have hs2 : ¬ t.name.toList = [] := by intro h; rw [h] at hs; cases hs
      have hs3 : (t.name.toList == []) = false := by simpa using hs2
      go_enter Tryd.func73, Tryd.ntmps73
      go_wp2_with (go_at_call 93; refine (belongs_any _ _ hf hk _).mono ?_; rintro e w1 ⟨rfl, rfl⟩)
      go_ret
      exact ⟨ret_bool' (by rw [HV.out, hn, hs]; rfl), hB0⟩
    | true =>
      have hs2 : t.name.toList = [] := List.isEmpty_iff.1 hs
      have hs3 : (t.name.toList == []) = true := by simpa using hs2
      have HV2 : Hid (t.vld k = Tree.allTo (fun i => (t.kid i).vld 115) t.len) := by show _ = _; rw [HV.out, hn, hs]; rfl
      clear hs2
      go_enter Tryd.func73, Tryd.ntmps73
      go_wp2_with (go_at_call 93; refine (belongs_any _ _ hf hk _).mono ?_; rintro e w1 ⟨rfl, rfl⟩)
      refine (containsStmt_of HH.out _ a c HR.out HG.out).mono ?_
      rintro e w1 ⟨rfl, hB1⟩
      have hB2 := hB0.trans (hB1.mono (by simp))
      clear hB1
      go_wp2_with fail
      go_ret
      exact ⟨ret_bool' (by rw [HV2.out]), hB2⟩

set_option maxHeartbeats 2000000 in
theorem isValid_form {t : Tree} (H : ∀ i, i < t.len → ValidAt (t.kid i)) (w : World) (a : Option Addr) (c : Nat) (k : Int) (hr : Rep w t a) (hk : Fm.cat k) (hg : SignsIn w) (hb : Fm.belongs t.kind k = true) (h47 : ¬ t.kind = 47) :
    Calls Tryd.prog 73 #[t.val a c, .int .u8 k] w fun e w' => e = .returned (.bool (t.vld k)) ∧ Below w.heap.size w w' := by
  have hf := hr.fits.kind
  have hnum := hr.fits.num
  have hln := hr.fits.len
  have hnm := hr.fits.name
  have q47 : (t.kind == 47) = false := by simpa using h47
  have HV : Hid (t.vld k = (decide (Fm.lo t.kind ≤ t.num) && decide (t.num ≤ Fm.hi t.kind) && decide (t.len = (Fm.kids t.kind).length) && (if Fm.name t.kind then Lx.name t.name.toList else t.name.toList.isEmpty) && Tree.allTo (fun i => (t.kid i).vld (((Fm.kids t.kind).getD i 0).toNat)) t.len)) := by
    show _ = _; rw [t.vld_eq, hb, if_neg h47]; rfl
  clear h47
  have hB0 : Below w.heap.size w (w.alloc (.cells (t.cells a c) 35)) := (Below.refl _ _).alloc (Nat.le_refl _) _
  have HK := Lib.hid hr.kids
  have HG := Lib.hid hg
  have HH := Lib.hid H
  have hfb := Fm.bd t.kind
  have HC := Lib.hid (Fm.kids_cat t.kind)
  clear hr hg H
  obtain ⟨fn, hfn⟩ : ∃ fn, Fm.name t.kind = fn := ⟨_, rfl⟩
  obtain ⟨lo, hlo⟩ : ∃ lo, Fm.lo t.kind = lo := ⟨_, rfl⟩
  obtain ⟨hi, hhi⟩ : ∃ hi, Fm.hi t.kind = hi := ⟨_, rfl⟩
  obtain ⟨kd, hkd⟩ : ∃ kd, Fm.kids t.kind = kd := ⟨_, rfl⟩
  have HF : Hid (∀ w, Calls Tryd.prog 97 #[.int .u8 t.kind] w fun e w' => e = .returned (.agg #[.bool fn, .int .i64 lo, .int .i64 hi, .string ⟨kd.toArray⟩]) ∧ Below w.heap.size w w') := by
    intro w
    have := formOf_any t.kind hf w
    rw [hfn, hlo, hhi, hkd] at this
    exact this
  rw [hfn, hlo, hhi, hkd] at HV
  rw [hlo, hhi, hkd] at hfb
  rw [hkd] at HC
  clear hfn hlo hhi hkd
  go_enter Tryd.func73, Tryd.ntmps73
  go_wp2_with (go_at_call 93; refine (belongs_any _ _ hf hk _).mono ?_; rintro e w1 ⟨rfl, rfl⟩)
  refine (HF.out _).mono ?_
  rintro e w1 ⟨rfl, hB1⟩
  have bx0 := box_cell (hB1.mono (by simp)) 0
  have bx1 := box_cell (hB1.mono (by simp)) 1
  have bx2 := box_cell (hB1.mono (by simp)) 2
  have bx3 := box_cell (hB1.mono (by simp)) 3
  have hsz := box_size (hB1.mono (by simp))
  simp only [List.getElem?_toArray, List.getElem?_cons_zero, List.getElem?_cons_succ] at bx0 bx1 bx2 bx3
  have hlt1 : w.heap.size < w1.heap.size := by omega
  have hsi := Nat.lt_succ_self w1.heap.size
  have hB2 : Below w.heap.size w (w1.alloc (.cells #[.bool fn, .int .i64 lo, .int .i64 hi, .string ⟨kd.toArray⟩] 152)) := (ofBox (hB1.mono (by simp))).alloc (by omega) _
  have HB1 := Lib.hid hB1
  clear hB1
  by_cases h1 : t.num < lo
  · have d1 : decide (t.num < lo) = true := by simpa using h1
    go_wp2_with fail
    go_ret
    exact ⟨ret_bool' (by rw [HV.out]; simp [show ¬ lo ≤ t.num by omega]), hB2⟩
  have d1 : decide (t.num < lo) = false := by simp; omega
  by_cases h2 : hi < t.num
  · have d2 : decide (hi < t.num) = true := by simpa using h2
    go_wp2_with fail
    go_ret
    exact ⟨ret_bool' (by rw [HV.out]; simp [show ¬ t.num ≤ hi by omega]), hB2⟩
  have d2 : decide (hi < t.num) = false := by simp; omega
  by_cases h3 : t.len = kd.length
  case neg =>
    have d3 : ((t.len : Int) != (kd.length : Int)) = true := by simp; omega
    have d4 : (t.len != kd.length) = true := by simpa using h3
    go_wp2_with fail
    go_ret
    exact ⟨ret_bool' (by rw [HV.out]; simp [h3]), hB2⟩
  have d3 : ((t.len : Int) != (kd.length : Int)) = false := by simp; omega
  have d4 : (t.len != kd.length) = false := by simpa using h3
  have HV3 : Hid (t.vld k = ((if fn then Lx.name t.name.toList else t.name.toList.isEmpty) && Tree.allTo (fun i => (t.kid i).vld ((kd.getD i 0).toNat)) t.len)) := by
    show _ = _; rw [HV.out]; simp [show lo ≤ t.num by omega, show t.num ≤ hi by omega, h3]
  have H3 := Lib.hid h3
  clear h3 h1 h2
  have HG2 := Lib.hid (HG.out.below hB2)
  cases fn with
  | true =>
    go_wp2_with fail
    refine (name_any t.name _ hnm HG2.out).mono ?_
    rintro e w2 ⟨rfl, hBn⟩
    have HBW : Hid (Below w.heap.size w w2) := hB2.trans (hBn.mono (by simp; omega))
    have hsW : w1.heap.size + 1 ≤ w2.heap.size := by have := hBn.size; simpa using this
    have fmW : w2.cell? ⟨w1.heap.size, 3, none⟩ = some (.string ⟨kd.toArray⟩) := (hBn.cell (p := ⟨w1.heap.size, 3, none⟩) (by simp)).trans (by simp)
    have fm0 : w2.cell? ⟨w1.heap.size, 0, none⟩ = some (.bool true) := (hBn.cell (p := ⟨w1.heap.size, 0, none⟩) (by simp)).trans (by simp)
    have by3 : w2.cell? ⟨w.heap.size, 3, none⟩ = some (.slice a t.len c) := (hBn.cell (p := ⟨w.heap.size, 3, none⟩) (by simp; omega)).trans ((World.cell?_alloc_lt _ _ _ hlt1).trans bx3)
    clear hBn bx0 bx1 bx2 bx3
    cases hv : Lx.name t.name.toList with
    | false =>
      go_wp2_with fail
      go_ret
      exact ⟨ret_bool' (by rw [HV3.out, hv]; rfl), HBW.out⟩
    | true =>
      have HV4 : Hid (t.vld k = Tree.allTo (fun i => (t.kid i).vld ((kd.getD i 0).toNat)) t.len) := by show _ = _; rw [HV3.out, hv]; rfl
      go_wp2_with fail
      go_loopw [75] (fun i wr => ∃ j : Nat, j ≤ t.len ∧ i = .int .i64 j ∧ Tree.allTo (fun i => (t.kid i).vld ((kd.getD i 0).toNat)) j = true ∧ Below (w1.heap.size + 1) w2 wr) (fun i _ => t.len - (intOf i).toNat)
      case atStart => exact ⟨0, Nat.zero_le _, rfl, rfl, Below.refl _ _⟩
      case round =>
        obtain ⟨j, hj, rfl, hall, hBr⟩ := hrel
        have HA := Lib.hid hall
        clear hall
        have hBw : Below w.heap.size w wr := HBW.out.trans (hBr.mono (by omega))
        have hsr : w1.heap.size + 1 ≤ wr.heap.size := Nat.le_trans hsW hBr.size
        by_cases hlt : j < t.len
        · rcases HK.out with h0 | ⟨b, off, rfl, hc⟩
          · omega
          obtain ⟨ai, ci, hn, hr⟩ := hc j hlt
          obtain ⟨f0, f1, f2, f3⟩ := hn.below hBw hn.lt
          have hfm : wr.cell? ⟨w1.heap.size, 3, none⟩ = some (.string ⟨kd.toArray⟩) := (hBr.cell (p := ⟨w1.heap.size, 3, none⟩) (Nat.lt_succ_self _)).trans fmW
          have hls : w1.heap.size < wr.heap.size := hsr
          have hjk : j < kd.length := by have := H3.out; omega
          have hjk1 : (j : Int) < (kd.length : Int) := by omega
          clear hc hn
          go_wp2_with fail
          have hjb : j < (⟨kd.toArray⟩ : ByteArray).size := by show j < kd.toArray.size; simpa using hjk
          have HNX := Lib.hid (Tree.allTo_succ (fun i => (t.kid i).vld ((kd.getD i 0).toNat)) j)
          have hBk : Below w.heap.size w (wr.alloc (.cells ((t.kid j).cells ai ci) 35)).drew := (hBw.alloc (by omega) _).drew
          have HRk := Lib.hid (hr.below hBk)
          have HGk := Lib.hid (HG.out.below hBk)
          obtain ⟨vj, hvj⟩ : ∃ vj, (t.kid j).vld ((kd.getD j 0).toNat) = vj := ⟨_, rfl⟩
          have HHj : Hid (∀ (w : World) (a : Option Addr) (c : Nat), Rep w (t.kid j) a → SignsIn w → Calls Tryd.prog 73 #[(t.kid j).val a c, .int .u8 (((⟨kd.toArray⟩ : ByteArray)[j]'hjb).toNat)] w fun e w' => e = .returned (.bool vj) ∧ Below w.heap.size w w') := by
            intro w a c h1 h2
            have e : ((⟨kd.toArray⟩ : ByteArray)[j]'hjb) = kd.getD j 0 := by
              rw [List.getD_eq_getElem?_getD, List.getElem?_eq_getElem hjk]; rfl
            rw [e, ← hvj]
            exact HH.out j hlt w a c _ h1 (HC.out j hjk) h2
          have HVJ := Lib.hid hvj
          clear hvj
          cases vj with
          | true =>
            go_region_with (first | (go_at_call 73; refine (HHj.out _ ai ci HRk.out HGk.out).mono ?_; rintro e w3 ⟨rfl, hB3⟩))
            all_goals
              have hB4 : Below (w1.heap.size + 1) w2 w3 := (hBr.alloc hsr _).drew.trans (hB3.mono (by simp; omega))
              have HN : Hid (Tree.allTo (fun i => (t.kid i).vld ((kd.getD i 0).toNat)) (j + 1) = true) := by show _ = _; rw [HNX.out, HA.out, HVJ.out]; rfl
              clear hB3 hBr
              go_wp2_with fail
              go_roundw
              case rel => exact ⟨j + 1, by omega, by go_num, HN.out, hB4⟩
              case measure => simp [intOf]; omega
          | false =>
            go_region_with (first | (go_at_call 73; refine (HHj.out _ ai ci HRk.out HGk.out).mono ?_; rintro e w3 ⟨rfl, hB3⟩))
            all_goals
              have hB4 : Below (w1.heap.size + 1) w2 w3 := (hBr.alloc hsr _).drew.trans (hB3.mono (by simp; omega))
              have hB5 : Below w.heap.size w w3 := HBW.out.trans (hB4.mono (by omega))
              have HN : Hid (Tree.allTo (fun i => (t.kid i).vld ((kd.getD i 0).toNat)) t.len = false) := Tree.allTo_false hlt HVJ.out
              clear hB3 hBr
              go_wp2_with fail
              go_ret
              exact ⟨ret_bool' (by rw [HV4.out, HN.out]), hB5⟩
        · obtain rfl : j = t.len := by omega
          go_wp2_with fail
          go_ret
          exact ⟨ret_bool' (by rw [HV4.out, HA.out]), hBw⟩
  | false =>
    have HBW := Lib.hid hB2
    have hsW : w1.heap.size + 1 ≤ (w1.alloc (.cells #[.bool false, .int .i64 lo, .int .i64 hi, .string ⟨kd.toArray⟩] 152)).heap.size := by simp
    have fmW : (w1.alloc (.cells #[.bool false, .int .i64 lo, .int .i64 hi, .string ⟨kd.toArray⟩] 152)).cell? ⟨w1.heap.size, 3, none⟩ = some (.string ⟨kd.toArray⟩) := by simp
    cases hv : t.name.toList.isEmpty with
    | false =>
      go_wp2_with fail
      go_ret
      exact ⟨ret_bool' (by rw [HV3.out, hv]; rfl), hB2⟩
    | true =>
      have HV4 : Hid (t.vld k = Tree.allTo (fun i => (t.kid i).vld ((kd.getD i 0).toNat)) t.len) := by show _ = _; rw [HV3.out, hv]; rfl
      have hs2 : t.name.toList = [] := List.isEmpty_iff.1 hv
      have hs3 : (t.name.toList == []) = true := by simpa using hs2
      clear hs2
      go_wp2_with fail
      go_loopw [75] (fun i wr => ∃ j : Nat, j ≤ t.len ∧ i = .int .i64 j ∧ Tree.allTo (fun i => (t.kid i).vld ((kd.getD i 0).toNat)) j = true ∧ Below (w1.heap.size + 1) (w1.alloc (.cells #[.bool false, .int .i64 lo, .int .i64 hi, .string ⟨kd.toArray⟩] 152)) wr) (fun i _ => t.len - (intOf i).toNat)
      case atStart => exact ⟨0, Nat.zero_le _, rfl, rfl, Below.refl _ _⟩
      case round =>
        obtain ⟨j, hj, rfl, hall, hBr⟩ := hrel
        have HA := Lib.hid hall
        clear hall
        have hBw : Below w.heap.size w wr := HBW.out.trans (hBr.mono (by omega))
        have hsr : w1.heap.size + 1 ≤ wr.heap.size := Nat.le_trans hsW hBr.size
        by_cases hlt : j < t.len
        · rcases HK.out with h0 | ⟨b, off, rfl, hc⟩
          · omega
          obtain ⟨ai, ci, hn, hr⟩ := hc j hlt
          obtain ⟨f0, f1, f2, f3⟩ := hn.below hBw hn.lt
          have hfm : wr.cell? ⟨w1.heap.size, 3, none⟩ = some (.string ⟨kd.toArray⟩) := (hBr.cell (p := ⟨w1.heap.size, 3, none⟩) (Nat.lt_succ_self _)).trans fmW
          have hls : w1.heap.size < wr.heap.size := hsr
          have hjk : j < kd.length := by have := H3.out; omega
          have hjk1 : (j : Int) < (kd.length : Int) := by omega
          clear hc hn
          go_wp2_with fail
          have hjb : j < (⟨kd.toArray⟩ : ByteArray).size := by show j < kd.toArray.size; simpa using hjk
          have HNX := Lib.hid (Tree.allTo_succ (fun i => (t.kid i).vld ((kd.getD i 0).toNat)) j)
          have hBk : Below w.heap.size w (wr.alloc (.cells ((t.kid j).cells ai ci) 35)).drew := (hBw.alloc (by omega) _).drew
          have HRk := Lib.hid (hr.below hBk)
          have HGk := Lib.hid (HG.out.below hBk)
          obtain ⟨vj, hvj⟩ : ∃ vj, (t.kid j).vld ((kd.getD j 0).toNat) = vj := ⟨_, rfl⟩
          have HHj : Hid (∀ (w : World) (a : Option Addr) (c : Nat), Rep w (t.kid j) a → SignsIn w → Calls Tryd.prog 73 #[(t.kid j).val a c, .int .u8 (((⟨kd.toArray⟩ : ByteArray)[j]'hjb).toNat)] w fun e w' => e = .returned (.bool vj) ∧ Below w.heap.size w w') := by
            intro w a c h1 h2
            have e : ((⟨kd.toArray⟩ : ByteArray)[j]'hjb) = kd.getD j 0 := by
              rw [List.getD_eq_getElem?_getD, List.getElem?_eq_getElem hjk]; rfl
            rw [e, ← hvj]
            exact HH.out j hlt w a c _ h1 (HC.out j hjk) h2
          have HVJ := Lib.hid hvj
          clear hvj
          cases vj with
          | true =>
            go_region_with (first | (go_at_call 73; refine (HHj.out _ ai ci HRk.out HGk.out).mono ?_; rintro e w3 ⟨rfl, hB3⟩))
            all_goals
              have hB4 : Below (w1.heap.size + 1) (w1.alloc (.cells #[.bool false, .int .i64 lo, .int .i64 hi, .string ⟨kd.toArray⟩] 152)) w3 := (hBr.alloc hsr _).drew.trans (hB3.mono (by simp; omega))
              have HN : Hid (Tree.allTo (fun i => (t.kid i).vld ((kd.getD i 0).toNat)) (j + 1) = true) := by show _ = _; rw [HNX.out, HA.out, HVJ.out]; rfl
              clear hB3 hBr
              go_wp2_with fail
              go_roundw
              case rel => exact ⟨j + 1, by omega, by go_num, HN.out, hB4⟩
              case measure => simp [intOf]; omega
          | false =>
            go_region_with (first | (go_at_call 73; refine (HHj.out _ ai ci HRk.out HGk.out).mono ?_; rintro e w3 ⟨rfl, hB3⟩))
            all_goals
              have hB4 : Below (w1.heap.size + 1) (w1.alloc (.cells #[.bool false, .int .i64 lo, .int .i64 hi, .string ⟨kd.toArray⟩] 152)) w3 := (hBr.alloc hsr _).drew.trans (hB3.mono (by simp; omega))
              have hB5 : Below w.heap.size w w3 := HBW.out.trans (hB4.mono (by omega))
              have HN : Hid (Tree.allTo (fun i => (t.kid i).vld ((kd.getD i 0).toNat)) t.len = false) := Tree.allTo_false hlt HVJ.out
              clear hB3 hBr
              go_wp2_with fail
              go_ret
              exact ⟨ret_bool' (by rw [HV4.out, HN.out]), hB5⟩
        · obtain rfl : j = t.len := by omega
          go_wp2_with fail
          go_ret
          exact ⟨ret_bool' (by rw [HV4.out, HA.out]), hBw⟩

theorem isValid_any : ∀ t : Tree, ValidAt t := by
  intro t
  induction t using Tree.ind with
  | h t ih =>
    intro w a c k hr hk hg
    cases hb : Fm.belongs t.kind k with
    | false => exact isValid_no t w a c k hr hk hb
    | true =>
      by_cases h47 : t.kind = 47
      · exact isValid_block ih w a c k hr hk hg hb h47
      · exact isValid_form ih w a c k hr hk hg hb h47
end Go.Proofs.YtkpdngfkdmllkaaDoor

/-
  Contracts: expressions, statements and blocks (packages ast and ontimeref12).
-/
namespace Go.Proofs.YtkpdngfkdmllkaaDoor
set_option linter.unusedVariables false
set_option linter.unusedSimpArgs false
open Go.RowKit
set_option maxRecDepth 100000

theorem isStmt_any (t : Tree) (w : World) (a : Option Addr) (c : Nat) (hr : Rep w t a) (hg : SignsIn w) :
    Calls Tryd.prog 96 #[t.val a c] w fun e w' => e = .returned (.bool (t.vld 115)) ∧ Below w.heap.size w w' := by
  have hB0 : Below w.heap.size w (w.alloc (.cells #[.int .u8 t.kind, .int .i64 t.num, .string t.name, .slice a t.len c] 35)) := (Below.refl _ _).alloc (Nat.le_refl _) _
  have HR := Lib.hid (hr.below hB0)
  have HG := Lib.hid (hg.below hB0)
  clear hr hg
  go_enter Tryd.func96, Tryd.ntmps96
  go_wp2_with fail
  refine (isValid_any t _ a c 115 HR.out (by unfold Fm.cat; omega) HG.out).mono ?_
  rintro e w1 ⟨rfl, hB1⟩
  have hB2 := hB0.trans (hB1.mono (by simp))
  clear hB1
  go_wp2_with fail
  go_ret
  exact ⟨rfl, hB2⟩

theorem isBlock_any (t : Tree) (w : World) (a : Option Addr) (c : Nat) (hr : Rep w t a) (hg : SignsIn w) :
    Calls Tryd.prog 55 #[t.val a c] w fun e w' => e = .returned (.bool (t.vld 98)) ∧ Below w.heap.size w w' := by
  have hB0 : Below w.heap.size w (w.alloc (.cells #[.int .u8 t.kind, .int .i64 t.num, .string t.name, .slice a t.len c] 35)) := (Below.refl _ _).alloc (Nat.le_refl _) _
  have HR := Lib.hid (hr.below hB0)
  have HG := Lib.hid (hg.below hB0)
  clear hr hg
  go_enter Tryd.func55, Tryd.ntmps55
  go_wp2_with fail
  refine (isValid_any t _ a c 98 HR.out (by unfold Fm.cat; omega) HG.out).mono ?_
  rintro e w1 ⟨rfl, hB1⟩
  have hB2 := hB0.trans (hB1.mono (by simp))
  clear hB1
  go_wp2_with fail
  go_ret
  exact ⟨rfl, hB2⟩

end Go.Proofs.YtkpdngfkdmllkaaDoor
