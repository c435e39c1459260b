/-
  Contract: which trees are valid, by the reference of layer 12.
-/
import Derived.Test.YtfkegjdgbnkicaaDoorRef12Form
import Derived.Deep.RegionWith
import Derived.Deep.Cut
import Derived.Deep.CutRange
import Derived.Deep.DeepCutAuto
namespace Go.Proofs.YtfkegjdgbnkicaaDoor
open Go.RowKit
set_option maxRecDepth 100000

abbrev Tree.cells' (t : Tree) (a : Option Addr) (c : Nat) : Array Value := #[.int .u8 t.kind, .int .i64 t.num, .string t.name, .slice a t.len c]
def IsAt (t : Tree) : Prop := ∀ (w : World) (a : Option Addr) (c : Nat) (k : Int), Rep w t a → Fm.cat k →
  Calls Tryd.prog 43 #[t.val a c, .int .u8 k] w fun e w' => e = .returned (.bool (t.vld k)) ∧ Below w.heap.size w w'

theorem Fr.no {k c : Int} (hc : Fm.cat c) (hb : Fm.belongs k c = false) (ho : Fr.ok k = true) :
    (c = 112 ∧ (k != 2) = true ∧ (k != 3) = true) ∨ ((c == 112) = false ∧ (c != 112) = true ∧ (Fr.cat k != c) = true) := by
  simp [Fr.ok] at ho
  rcases hc with rfl | rfl | rfl | rfl
  · right; simp [Fm.belongs] at hb; refine ⟨rfl, rfl, ?_⟩; rw [bne_iff_ne]; unfold Fr.cat; (repeat' split) <;> omega
  · left; simp [Fm.belongs] at hb; simp; omega
  · right; simp [Fm.belongs] at hb; refine ⟨rfl, rfl, ?_⟩; rw [bne_iff_ne]; unfold Fr.cat; (repeat' split) <;> omega
  · right; simp [Fm.belongs] at hb; refine ⟨rfl, rfl, ?_⟩; rw [bne_iff_ne]; unfold Fr.cat; (repeat' split) <;> omega
theorem Fr.yes {k c : Int} (hc : Fm.cat c) (hb : Fm.belongs k c = true) :
    Fr.ok k = true ∧ ((c = 112 ∧ (k = 2 ∨ k = 3)) ∨ ((c == 112) = false ∧ (c != 112) = true ∧ (Fr.cat k != c) = false)) := by
  rcases hc with rfl | rfl | rfl | rfl
  · simp [Fm.belongs] at hb; refine ⟨by simp [Fr.ok]; omega, .inr ⟨rfl, rfl, ?_⟩⟩; simp [Fr.cat, hb]
  · simp [Fm.belongs] at hb; exact ⟨by simp [Fr.ok]; omega, .inl ⟨rfl, hb⟩⟩
  · simp [Fm.belongs] at hb; refine ⟨by simp [Fr.ok]; omega, .inr ⟨rfl, rfl, ?_⟩⟩; simp only [Fr.cat]; rw [if_neg (by omega), if_pos (by omega)]; rfl
  · simp [Fm.belongs] at hb; subst hb; refine ⟨by simp [Fr.ok], .inr ⟨rfl, rfl, rfl⟩⟩

set_option maxHeartbeats 1000000 in
theorem is_no (t : Tree) (w : World) (a : Option Addr) (c : Nat) (k : Int) (hr : Rep w t a) (hk : Fm.cat k) (hb : Fm.belongs t.kind k = false) :
    Calls Tryd.prog 43 #[t.val a c, .int .u8 k] w fun e w' => e = .returned (.bool (t.vld k)) ∧ Below w.heap.size w w' := by
  have hf := hr.fits.kind
  have HV : Hid (t.vld k = false) := by show _ = _; rw [t.vld_eq, hb]; rfl
  clear hr
  cases ho : Fr.ok t.kind with
  | false =>
    go_enter Tryd.func43, Tryd.ntmps43
    go_wp2_with (go_at_call 62; refine (refForm_none _ hf ho _).mono ?_; rintro e w1 ⟨rfl, rfl⟩)
    go_ret
    exact ⟨ret_bool' HV.out.symm, (Below.refl _ _).alloc (Nat.le_refl _) _⟩
  | true =>
    rcases Fr.no hk hb ho with ⟨rfl, h2, h3⟩ | ⟨h1, h2, h3⟩
    · clear hb
      go_enter Tryd.func43, Tryd.ntmps43
      go_wp2_with (go_at_call 62; refine (refForm_any _ hf ho _).mono ?_; rintro e w1 ⟨rfl, rfl⟩)
      go_ret
      exact ⟨ret_bool' HV.out.symm, (Below.refl _ _).alloc (Nat.le_refl _) _⟩
    · clear hb
      go_enter Tryd.func43, Tryd.ntmps43
      go_wp2_with (first | (go_at_call 62; refine (refForm_any _ hf ho _).mono ?_; rintro e w1 ⟨rfl, rfl⟩) | (go_at_call 63; refine (refCat_any _ hf _).mono ?_; rintro e w1 ⟨rfl, rfl⟩))
      go_ret
      exact ⟨ret_bool' HV.out.symm, (Below.refl _ _).alloc (Nat.le_refl _) _⟩

theorem kids_star (k : Int) : Fm.kids k ≠ [42] := by
  by_cases hk : k = 1 ∨ k = 2 ∨ k = 3 ∨ k = 4 ∨ k = 5 ∨ k = 40 ∨ k = 41 ∨ k = 42 ∨ k = 43 ∨ k = 44 ∨ k = 45 ∨ k = 46
  · rcases hk with rfl | rfl | rfl | rfl | rfl | rfl | rfl | rfl | rfl | rfl | rfl | rfl <;> decide
  · unfold Fm.kids; rw [Fm.row_else k hk]; decide

set_option maxHeartbeats 2000000 in
theorem is_block {t : Tree} (H : ∀ i, i < t.len → IsAt (t.kid i)) (w : World) (a : Option Addr) (c : Nat) (hr : Rep w t a) (h47 : t.kind = 47) :
    Calls Tryd.prog 43 #[t.val a c, .int .u8 98] w fun e w' => e = .returned (.bool (t.vld 98)) ∧ Below w.heap.size w w' := by
  have hl := hr.fits.len
  have HV : Hid (t.vld 98 = ((t.num == 0) && t.name.toList.isEmpty && Tree.allTo (fun i => (t.kid i).vld 115) t.len)) := by
    show _ = _; rw [t.vld_eq, if_pos h47, h47]; rfl
  have hB0 : Below w.heap.size w (w.alloc (.cells #[.int .u8 47, .int .i64 t.num, .string t.name, .slice a t.len c] 24)) := (Below.refl _ _).alloc (Nat.le_refl _) _
  have HK := Lib.hid hr.kids
  have HH := Lib.hid H
  have hcat : Fr.cat 47 = 98 := rfl
  clear hr H
  show Calls Tryd.prog 43 #[.agg #[.int .u8 t.kind, .int .i64 t.num, .string t.name, .slice a t.len c], .int .u8 98] w _
  rw [h47]
  have H47 := Lib.hid h47
  clear h47
  cases hn : (t.num == 0) with
  | false =>
    have hn2 : (t.num != 0) = true := by simpa [bne] using hn
    go_enter Tryd.func43, Tryd.ntmps43
    go_wp2_with (first | (go_at_call 62; refine (refForm_47 _).mono ?_; rintro e w1 ⟨rfl, rfl⟩) | (go_at_call 63; refine (refCat_any 47 (by omega) _).mono ?_; rintro e w1 ⟨rfl, rfl⟩) | (go_at_call 64; refine (refBounds_else 47 (by omega) (by omega) _).mono ?_; rintro e w1 ⟨rfl, rfl⟩))
    go_ret
    exact ⟨ret_bool' (by rw [HV.out, hn]; rfl), hB0⟩
  | true =>
    have hn2 : (t.num != 0) = false := by simpa [bne] using hn
    cases hs : t.name.toList.isEmpty with
    | false =>
      have hs2 : ¬ t.name.toList = [] := by intro h; rw [h] at hs; cases hs
      go_enter Tryd.func43, Tryd.ntmps43
      go_wp2_with (first | (go_at_call 62; refine (refForm_47 _).mono ?_; rintro e w1 ⟨rfl, rfl⟩) | (go_at_call 63; refine (refCat_any 47 (by omega) _).mono ?_; rintro e w1 ⟨rfl, rfl⟩) | (go_at_call 64; refine (refBounds_else 47 (by omega) (by omega) _).mono ?_; rintro e w1 ⟨rfl, rfl⟩))
      go_ret
      exact ⟨ret_bool' (by rw [HV.out, hn, hs]; rfl), hB0⟩
    | true =>
      have hs2 : t.name.toList = [] := List.isEmpty_iff.1 hs
      have HV2 : Hid (t.vld 98 = Tree.allTo (fun i => (t.kid i).vld 115) t.len) := by show _ = _; rw [HV.out, hn, hs]; rfl
      go_enter Tryd.func43, Tryd.ntmps43
      go_wp2_with (first | (go_at_call 62; refine (refForm_47 _).mono ?_; rintro e w1 ⟨rfl, rfl⟩) | (go_at_call 63; refine (refCat_any 47 (by omega) _).mono ?_; rintro e w1 ⟨rfl, rfl⟩) | (go_at_call 64; refine (refBounds_else 47 (by omega) (by omega) _).mono ?_; rintro e w1 ⟨rfl, rfl⟩))
      go_loopw [11] (fun i wr => ∃ j : Nat, j ≤ t.len ∧ i = .int .i64 j ∧ Tree.allTo (fun i => (t.kid i).vld 115) j = true ∧ Below (w.heap.size + 1) (w.alloc (.cells #[.int .u8 47, .int .i64 t.num, .string t.name, .slice a t.len c] 24)) wr) (fun i _ => t.len - (intOf i).toNat)
      case atStart => exact ⟨0, Nat.zero_le _, rfl, rfl, Below.refl _ _⟩
      case round =>
        obtain ⟨j, hj, rfl, hall, hBx⟩ := hrel
        have HA := Lib.hid hall
        clear hall
        have hB := ofBox hBx
        have hsz := box_size hBx
        have bx3 := box_cell hBx 3
        simp only [List.getElem?_toArray, List.getElem?_cons_zero, List.getElem?_cons_succ] at bx3
        by_cases hlt : j < t.len
        · rcases HK.out with h0 | ⟨b, off, rfl, hc⟩
          · omega
          obtain ⟨ai, ci, hn, hr⟩ := hc j hlt
          obtain ⟨f0, f1, f2, f3⟩ := hn.below hB hn.lt
          clear hc hn
          go_wp2_with fail
          refine (HH.out j hlt _ ai ci 115 (hr.below hB) (by unfold Fm.cat; omega)).mono ?_
          rintro e w1 ⟨rfl, hB1⟩
          have hB2 := hBx.trans (hB1.mono hsz)
          clear hB1 hr f0 f1 f2 f3
          cases hv : (t.kid j).vld 115 with
          | true =>
            have HN : Hid (Tree.allTo (fun i => (t.kid i).vld 115) (j + 1) = true) := by show _ = _; rw [Tree.allTo_succ, HA.out, hv]; rfl
            go_wp2_with fail
            go_roundw
            case rel => exact ⟨j + 1, by omega, by go_num, HN.out, hB2⟩
            case measure => simp [intOf]; omega
          | false =>
            have HN : Hid (Tree.allTo (fun i => (t.kid i).vld 115) t.len = false) := Tree.allTo_false hlt hv
            go_wp2_with fail
            go_ret
            exact ⟨ret_bool' (by rw [HV2.out, HN.out]), ofBox hB2⟩
        · obtain rfl : j = t.len := by omega
          go_wp2_with fail
          go_ret
          exact ⟨ret_bool' (by rw [HV2.out, HA.out]), hB⟩

/-- what stands in front of the children -/
structure FormFacts (t : Tree) (k : Int) (fn nu : Bool) (lo hi : Int) (kd : List UInt8) : Prop where
  form : ∀ w, Calls Tryd.prog 62 #[.int .u8 t.kind] w fun e w' => e = .returned (.tuple #[.string ⟨kd.toArray⟩, .bool fn, .bool nu, .bool true]) ∧ w = w'
  bounds : ∀ w, Calls Tryd.prog 64 #[.int .u8 t.kind] w fun e w' => e = .returned (.tuple #[.int .i64 lo, .int .i64 hi]) ∧ w = w'
  vld : t.vld k = (decide (lo ≤ t.num) && decide (t.num ≤ hi) && decide (t.len = kd.length) && (if fn then Lx.name t.name.toList else t.name.toList.isEmpty) && Tree.allTo (fun i => (t.kid i).vld ((kd.getD i 0).toNat)) t.len)
  num : nu = false → lo = 0 ∧ hi = 0
  cats : ∀ i, i < kd.length → Fm.cat ((kd.getD i 0).toNat)
  star : ¬ kd = [42]
  bd : 0 ≤ lo ∧ lo ≤ 1 ∧ 0 ≤ hi ∧ hi ≤ 2147483647 ∧ kd.length ≤ 3
theorem formFacts (t : Tree) (k : Int) (hf : 0 ≤ t.kind ∧ t.kind ≤ 255) (hb : Fm.belongs t.kind k = true) (ho : Fr.ok t.kind = true) (h47 : ¬ t.kind = 47) :
    FormFacts t k (Fm.name t.kind) (Fr.num t.kind) (Fm.lo t.kind) (Fm.hi t.kind) (Fm.kids t.kind) := by
  have e : Fr.f t.kind = Fm.kids t.kind := by unfold Fr.f; rw [if_neg h47]
  refine ⟨fun w => ?_, fun w => refBounds_any t.kind hf w, ?_, fun h => Fm.num_else t.kind (by simpa [Fr.num] using h), Fm.kids_cat t.kind, kids_star t.kind, Fm.bd t.kind⟩
  · have := refForm_any t.kind hf ho w; rw [e] at this; exact this
  · rw [t.vld_eq, hb, if_neg h47]; rfl

theorem not_band {x y : Bool} (h : true = !(x && y)) : (x && y) = false := by cases x <;> cases y <;> simp_all
theorem is_band {x y : Bool} (h : false = !(x && y)) : (x && y) = true := by cases x <;> cases y <;> simp_all
set_option maxHeartbeats 4000000 in
theorem is_form {t : Tree} {fn nu : Bool} {lo hi : Int} {kd : List UInt8} (H : ∀ i, i < t.len → IsAt (t.kid i)) (w : World) (a : Option Addr) (c : Nat) (k : Int) (hr : Rep w t a) (X : FormFacts t k fn nu lo hi kd)
    (hcat : (k = 112 ∧ (t.kind = 2 ∨ t.kind = 3)) ∨ ((k == 112) = false ∧ (k != 112) = true ∧ (Fr.cat t.kind != k) = false)) :
    Calls Tryd.prog 43 #[t.val a c, .int .u8 k] w fun e w' => e = .returned (.bool (t.vld k)) ∧ Below w.heap.size w w' := by
  have hf := hr.fits.kind
  have hnum := hr.fits.num
  have hln := hr.fits.len
  have hnm := hr.fits.name
  have hB0 : Below w.heap.size w (w.alloc (.cells (t.cells' a c) 24)) := (Below.refl _ _).alloc (Nat.le_refl _) _
  have HK := Lib.hid hr.kids
  have HH := Lib.hid H
  have HF := Lib.hid X.form
  have HBD := Lib.hid X.bounds
  have HV := Lib.hid X.vld
  have HNUM := Lib.hid X.num
  have HC := Lib.hid X.cats
  have st0 := X.star
  have st1 : (kd == [42]) = false := by simpa using st0
  have hfb := X.bd
  clear hr H X
  have hcat2 : ((k == 112) = true ∧ (k != 112) = false ∧ ((t.kind != 2) = false ∨ (t.kind != 2) = true ∧ (t.kind != 3) = false)) ∨ ((k == 112) = false ∧ (k != 112) = true ∧ (Fr.cat t.kind != k) = false) := by
    rcases hcat with ⟨rfl, h⟩ | h
    · left; refine ⟨rfl, rfl, ?_⟩
      rcases h with h | h <;> rw [h] <;> simp
    · exact .inr h
  clear hcat
  have HCAT := Lib.hid hcat2
  clear hcat2
  obtain ⟨r, hrr⟩ : ∃ r : Bool, r = !(decide (lo ≤ t.num) && decide (t.num ≤ hi)) := ⟨_, rfl⟩
  have HR := Lib.hid hrr
  clear hrr
  go_enter Tryd.func43, Tryd.ntmps43
  go_upto_region 4 with (go_at_call 62; refine (HF.out _).mono ?_; rintro e w1 ⟨rfl, rfl⟩)
  go_cut [34] (fun s w' => s = .bool false ∧ w' = (w.alloc (.cells (t.cells' a c) 24)))
  case first =>
    rcases HCAT.out with ⟨k1, k2, (k3 | ⟨k3, k4⟩)⟩ | ⟨k1, k2, k3⟩
    all_goals
      go_wp2_with fail
      go_meet
      exact ⟨rfl, rfl⟩
  obtain ⟨rfl, rfl⟩ := hcut
  go_upto_region 6 with (fail)
  go_cut [43] (fun s w' => s = .bool false ∧ w' = (w.alloc (.cells (t.cells' a c) 24)))
  case first =>
    rcases HCAT.out with ⟨k1, k2, (k3 | ⟨k3, k4⟩)⟩ | ⟨k1, k2, k3⟩
    all_goals
      go_wp2_with (go_at_call 63; refine (refCat_any _ hf _).mono ?_; rintro e w1 ⟨rfl, rfl⟩)
      go_meet
      exact ⟨rfl, rfl⟩
  obtain ⟨rfl, rfl⟩ := hcut
  go_upto_region 9 with (go_at_call 64; refine (HBD.out _).mono ?_; rintro e w1 ⟨rfl, rfl⟩)
  go_cut [71] (fun s w' => s = .bool r ∧ w' = (w.alloc (.cells (t.cells' a c) 24)))
  case first =>
    by_cases q : t.num < lo
    · have q1 : decide (t.num < lo) = true := by simpa using q
      have HE : Hid (r = true) := by show _ = _; rw [HR.out]; simp; omega
      cases nu with
      | true =>
        go_wp2_with fail
        go_meet
        exact ⟨by rw [HE.out], rfl⟩
      | false =>
        have q3 : (t.num != 0) = true := by obtain ⟨rfl, rfl⟩ := HNUM.out rfl; rw [bne_iff_ne]; omega
        go_wp2_with fail
        go_meet
        exact ⟨by rw [HE.out], rfl⟩
    · have q1 : decide (t.num < lo) = false := by simpa using q
      by_cases p : hi < t.num
      · have p1 : decide (hi < t.num) = true := by simpa using p
        have HE : Hid (r = true) := by show _ = _; rw [HR.out]; simp; omega
        cases nu with
        | true =>
          go_wp2_with fail
          go_meet
          exact ⟨by rw [HE.out], rfl⟩
        | false =>
          have q3 : (t.num != 0) = true := by obtain ⟨rfl, rfl⟩ := HNUM.out rfl; rw [bne_iff_ne]; omega
          go_wp2_with fail
          go_meet
          exact ⟨by rw [HE.out], rfl⟩
      · have p1 : decide (hi < t.num) = false := by simpa using p
        have HE : Hid (r = false) := by show _ = _; rw [HR.out]; simp; omega
        cases nu with
        | true =>
          go_wp2_with fail
          go_meet
          exact ⟨by rw [HE.out], rfl⟩
        | false =>
          have q3 : (t.num != 0) = false := by obtain ⟨rfl, rfl⟩ := HNUM.out rfl; rw [bne_eq_false_iff_eq]; omega
          go_wp2_with fail
          go_meet
          exact ⟨by rw [HE.out], rfl⟩
  obtain ⟨rfl, rfl⟩ := hcut
  cases r with
  | true =>
    have HE : Hid (t.vld k = false) := by
      show _ = _; rw [HV.out, not_band HR.out]; rfl
    go_wp2_with fail
    go_ret
    exact ⟨ret_bool' HE.out.symm, hB0⟩
  | false =>
  have HV2 : Hid (t.vld k = (decide (t.len = kd.length) && (if fn then Lx.name t.name.toList else t.name.toList.isEmpty) && Tree.allTo (fun i => (t.kid i).vld ((kd.getD i 0).toNat)) t.len)) := by
    show _ = _; rw [HV.out, is_band HR.out]; simp only [Bool.true_and]
  obtain ⟨nb, hnb⟩ : ∃ nb : Bool, (!(if fn then Lx.name t.name.toList else t.name.toList.isEmpty)) = nb := ⟨_, rfl⟩
  have HNB := Lib.hid hnb
  clear hnb
  go_upto_region 11 with (fail)
  go_cut [87] (fun s w' => s = .bool nb ∧ Below (w.heap.size + 1) (w.alloc (.cells (t.cells' a c) 24)) w')
  case first =>
    cases fn with
    | true =>
      go_wp2_with fail
      refine (refName_any t.name _ hnm).mono ?_
      rintro e w2 ⟨rfl, hBn⟩
      have hBW : Below (w.heap.size + 1) (w.alloc (.cells (t.cells' a c) 24)) w2 := hBn.mono (by simp)
      clear hBn
      cases hv : Lx.name t.name.toList with
      | true =>
        have HE : Hid (nb = false) := by show _ = _; rw [← HNB.out]; simpa using hv
        go_wp2_with fail
        go_meet
        exact ⟨by rw [HE.out], hBW⟩
      | false =>
        have HE : Hid (nb = true) := by show _ = _; rw [← HNB.out]; simpa using hv
        go_wp2_with fail
        go_meet
        exact ⟨by rw [HE.out], hBW⟩
    | false =>
      cases hv : t.name.toList.isEmpty with
      | true =>
        have hs2 : t.name.toList = [] := List.isEmpty_iff.1 hv
        have HE : Hid (nb = false) := by show _ = _; rw [← HNB.out]; simpa using hv
        go_wp2_with fail
        go_meet
        exact ⟨by rw [HE.out], Below.refl _ _⟩
      | false =>
        have hs2 : ¬ t.name.toList = [] := by intro h; rw [h] at hv; cases hv
        have HE : Hid (nb = true) := by show _ = _; rw [← HNB.out]; simpa using hv
        go_wp2_with fail
        go_meet
        exact ⟨by rw [HE.out], Below.refl _ _⟩
  obtain ⟨rfl, hBW⟩ := hcut
  have HBW := Lib.hid hBW
  have by3 := box_cell hBW 3
  simp only [List.getElem?_toArray, List.getElem?_cons_zero, List.getElem?_cons_succ] at by3
  clear hBW
  cases nb with
  | true =>
    go_wp2_with fail
    go_ret
    exact ⟨ret_bool' (by rw [HV2.out, (Bool.not_eq_true' _).mp HNB.out]; simp), ofBox HBW.out⟩
  | false =>
  by_cases h3 : t.len = kd.length
  case neg =>
    have d3 : ((t.len : Int) != (kd.length : Int)) = true := by simp; omega
    have d4 : (t.len != kd.length) = true := by simpa using h3
    go_wp2_with fail
    go_ret
    exact ⟨ret_bool' (by rw [HV2.out]; simp [h3]), ofBox HBW.out⟩
  have d3 : ((t.len : Int) != (kd.length : Int)) = false := by simp; omega
  have d4 : (t.len != kd.length) = false := by simpa using h3
  have HV4 : Hid (t.vld k = Tree.allTo (fun i => (t.kid i).vld ((kd.getD i 0).toNat)) t.len) := by show _ = _; rw [HV2.out, (Bool.not_eq_false' _).mp HNB.out]; simp [h3]
  have H3 := Lib.hid h3
  clear h3
  go_wp2_with fail
  go_loopw [12] (fun i wr => ∃ j : Nat, j ≤ t.len ∧ i = .int .i64 j ∧ Tree.allTo (fun i => (t.kid i).vld ((kd.getD i 0).toNat)) j = true ∧ Below (w.heap.size + 1) (w.alloc (.cells (t.cells' a c) 24)) wr) (fun i _ => t.len - (intOf i).toNat)
  case atStart => exact ⟨0, Nat.zero_le _, rfl, rfl, HBW.out⟩
  case round =>
    obtain ⟨j, hj, rfl, hall, hBx⟩ := hrel
    have HA := Lib.hid hall
    clear hall
    have hB := ofBox hBx
    have hsz := box_size hBx
    have bx3 := box_cell hBx 3
    simp only [List.getElem?_toArray, List.getElem?_cons_zero, List.getElem?_cons_succ] at bx3
    by_cases hlt : j < t.len
    · rcases HK.out with h0 | ⟨b, off, rfl, hc⟩
      · omega
      obtain ⟨ai, ci, hn, hr⟩ := hc j hlt
      obtain ⟨f0, f1, f2, f3⟩ := hn.below hB hn.lt
      have hjk : j < kd.length := by have := H3.out; omega
      have hjk1 : (j : Int) < (kd.length : Int) := by omega
      have hjl1 : (j : Int) < (t.len : Int) := by omega
      have hjb : j < (⟨kd.toArray⟩ : ByteArray).size := by show j < kd.toArray.size; simpa using hjk
      have HNX := Lib.hid (Tree.allTo_succ (fun i => (t.kid i).vld ((kd.getD i 0).toNat)) j)
      have HRk := Lib.hid (hr.below hB.drew)
      obtain ⟨vj, hvj⟩ : ∃ vj, (t.kid j).vld ((kd.getD j 0).toNat) = vj := ⟨_, rfl⟩
      have HHj : Hid (∀ (w : World) (a : Option Addr) (c : Nat), Rep w (t.kid j) a → Calls Tryd.prog 43 #[(t.kid j).val a c, .int .u8 (((⟨kd.toArray⟩ : ByteArray)[j]'hjb).toNat)] w fun e w' => e = .returned (.bool vj) ∧ Below w.heap.size w w') := by
        intro w a c h1
        have e : ((⟨kd.toArray⟩ : ByteArray)[j]'hjb) = kd.getD j 0 := by
          rw [List.getD_eq_getElem?_getD, List.getElem?_eq_getElem hjk]; rfl
        rw [e, ← hvj]
        exact HH.out j hlt w a c _ h1 (HC.out j hjk)
      have HVJ := Lib.hid hvj
      clear hvj hc hn
      have HX := Lib.hid hBx
      clear hBx
      cases vj with
      | true =>
        go_wp2_with fail
        go_region_with (first | (go_at_call 43; refine (HHj.out _ ai ci HRk.out).mono ?_; rintro e w3 ⟨rfl, hB3⟩))
        all_goals
          have hB4 : Below (w.heap.size + 1) (w.alloc (.cells (t.cells' (some ⟨b, off, none⟩) c) 24)) w3 := HX.out.drew.trans (hB3.mono hsz)
          have HN : Hid (Tree.allTo (fun i => (t.kid i).vld ((kd.getD i 0).toNat)) (j + 1) = true) := by show _ = _; rw [HNX.out, HA.out, HVJ.out]; rfl
          clear hB3
          go_wp2_with fail
          go_roundw
          case rel => exact ⟨j + 1, by omega, by go_num, HN.out, hB4⟩
          case measure => simp [intOf]; omega
      | false =>
        go_wp2_with fail
        go_region_with (first | (go_at_call 43; refine (HHj.out _ ai ci HRk.out).mono ?_; rintro e w3 ⟨rfl, hB3⟩))
        all_goals
          have hB4 : Below (w.heap.size + 1) (w.alloc (.cells (t.cells' (some ⟨b, off, none⟩) c) 24)) w3 := HX.out.drew.trans (hB3.mono hsz)
          have HN : Hid (Tree.allTo (fun i => (t.kid i).vld ((kd.getD i 0).toNat)) t.len = false) := Tree.allTo_false hlt HVJ.out
          clear hB3
          go_wp2_with fail
          go_ret
          exact ⟨ret_bool' (by rw [HV4.out, HN.out]), ofBox hB4⟩
    · obtain rfl : j = t.len := by omega
      have h5 : kd.length ≤ t.len := by have := H3.out; omega
      go_wp2_with fail
      go_ret
      exact ⟨ret_bool' (by rw [HV4.out, HA.out]), hB⟩

theorem is_any : ∀ t : Tree, IsAt t := by
  intro t
  induction t using Tree.ind with
  | h t ih =>
    intro w a c k hr hk
    cases hb : Fm.belongs t.kind k with
    | false => exact is_no t w a c k hr hk hb
    | true =>
      obtain ⟨ho, hcat⟩ := Fr.yes hk hb
      by_cases h47 : t.kind = 47
      · have e : k = 98 := by
          rw [h47] at hb
          rcases hk with rfl | rfl | rfl | rfl
          · simp [Fm.belongs] at hb
          · simp [Fm.belongs] at hb
          · simp [Fm.belongs] at hb
          · rfl
        subst e
        exact is_block ih w a c hr h47
      · exact is_form ih w a c k hr (formFacts t k hr.fits.kind hb ho h47) hcat
end Go.Proofs.YtfkegjdgbnkicaaDoor
