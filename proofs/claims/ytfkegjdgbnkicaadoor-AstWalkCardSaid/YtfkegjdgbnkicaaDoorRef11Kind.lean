/-
  Contracts: the kind of a token, and names, by the reference of layer 11.
-/
import Derived.Test.YtfkegjdgbnkicaaDoorRef11
namespace Go.Proofs.YtfkegjdgbnkicaaDoor
open Go.RowKit
set_option maxRecDepth 100000

set_option maxHeartbeats 4000000 in
theorem refKind_any (s : ByteArray) (w : World) (hs : s.size ≤ 9223372036854775807) :
    Calls Tryd.prog 68 #[.string s] w (KindIs (Lx.startOk s.toList) w) := by
  by_cases h0 : s.size = 0
  · have e : s = ⟨#[]⟩ := bytes_eq (by have := toList_len s; rw [h0] at this; exact List.length_eq_zero_iff.1 this)
    subst e
    clear h0
    go_enter Tryd.func68, Tryd.ntmps68
    go_wp2_with fail
    go_ret
    exact ⟨_, rfl, by simp [ByteArray.toList_eq, Lx.startOk], by omega, Below.refl _ _⟩
  · have h1 : 0 < s.size := by omega
    have q0 : ((s.size : Int) == 0) = false := by rw [beq_eq_false_iff_ne]; omega
    have h1' : (0 : Int) < (s.size : Int) := by omega
    have HA0 := Lib.hid (wordTo_zero s h1)
    have HAL := Lib.hid (wordTo_all s h1)
    clear h0
    go_enter Tryd.func68, Tryd.ntmps68
    go_wp2_with fail
    go_quiet ((go_at_call 76; exact Calls.quiet_of_same ((refLetter_any _ _).mono fun _ _ h => ⟨h.1, h.2.symm⟩)))
    go_wp2_with fail
    have hB0 : Below w.heap.size w (w.drewN nq) := ⟨rfl, rfl, rfl, Nat.le_refl _, fun _ _ => rfl⟩
    go_loop [3, 4, 5, 6, 7] (fun v3 v4 v5 v6 i => ∃ (j : Nat) (b3 b4 b5 b6 : Bool), j ≤ s.size ∧ i = .int .i64 j ∧ v3 = .bool b3 ∧ v4 = .bool b4 ∧ v5 = .bool b5 ∧ v6 = .bool b6 ∧ wordTo s j = b3) (fun _ _ _ _ i => s.size - (intOf i).toNat)
    case atStart => exact ⟨0, _, _, _, _, Nat.zero_le _, rfl, rfl, rfl, rfl, rfl, HA0.out⟩
    case round =>
      obtain ⟨j, b3, b4, b5, b6, hj, rfl, rfl, rfl, rfl, rfl, hw3⟩ := hrel
      have HW := Lib.hid hw3
      clear hw3
      by_cases hlt : j < s.size
      · have HS := Lib.hid (wordTo_succ s j hlt)
        have hlt' : (j : Int) < (s.size : Int) := by omega
        have HI : Hid (Lx.inner s[j].toNat = (Lx.letter s[j].toNat || Lx.digit s[j].toNat)) := rfl
        cases b3 with
        | false =>
          have HN : Hid (wordTo s (j + 1) = false) := by show _ = _; rw [HS.out, HW.out]; rfl
          cases b4 <;> cases b5 <;> cases b6
          all_goals
            go_wp2_with (first | (go_at_call 76; refine (refLetter_any _ _).mono ?_; rintro e w1 ⟨rfl, rfl⟩) | (go_at_call 77; refine (refDigit_any _ _).mono ?_; rintro e w1 ⟨rfl, rfl⟩) | (go_at_call 78; refine (refSpace_any _ _).mono ?_; rintro e w1 ⟨rfl, rfl⟩))
            go_round
            case rel => exact ⟨j + 1, _, _, _, _, by omega, by go_num, rfl, rfl, rfl, rfl, HN.out⟩
            case measure => simp [intOf]; omega
        | true =>
          cases hq : Lx.letter s[j].toNat with
          | true =>
            have HN : Hid (wordTo s (j + 1) = true) := by show _ = _; rw [HS.out, HW.out, HI.out, hq]; rfl
            cases b4 <;> cases b5 <;> cases b6
            all_goals
              go_wp2_with (first | (go_at_call 76; refine (refLetter_any _ _).mono ?_; rintro e w1 ⟨rfl, rfl⟩) | (go_at_call 77; refine (refDigit_any _ _).mono ?_; rintro e w1 ⟨rfl, rfl⟩) | (go_at_call 78; refine (refSpace_any _ _).mono ?_; rintro e w1 ⟨rfl, rfl⟩))
              go_round
              case rel => exact ⟨j + 1, _, _, _, _, by omega, by go_num, rfl, rfl, rfl, rfl, HN.out⟩
              case measure => simp [intOf]; omega
          | false =>
            have HN : Hid (wordTo s (j + 1) = Lx.digit s[j].toNat) := by show _ = _; rw [HS.out, HW.out, HI.out, hq]; rfl
            cases b4 <;> cases b5 <;> cases b6
            all_goals
              go_wp2_with (first | (go_at_call 76; refine (refLetter_any _ _).mono ?_; rintro e w1 ⟨rfl, rfl⟩) | (go_at_call 77; refine (refDigit_any _ _).mono ?_; rintro e w1 ⟨rfl, rfl⟩) | (go_at_call 78; refine (refSpace_any _ _).mono ?_; rintro e w1 ⟨rfl, rfl⟩))
              go_round
              case rel => exact ⟨j + 1, _, _, _, _, by omega, by go_num, rfl, rfl, rfl, rfl, HN.out⟩
              case measure => simp [intOf]; omega
      · obtain rfl : j = s.size := by omega
        cases b3 with
        | true =>
          go_wp2_with fail
          go_ret
          exact ⟨_, rfl, by rw [← HAL.out, HW.out]; rfl, by omega, hB0⟩
        | false =>
          cases b4 with
          | true =>
            go_wp2_with fail
            go_ret
            exact ⟨_, rfl, by rw [← HAL.out, HW.out]; rfl, by omega, hB0⟩
          | false =>
            go_wp2_with fail
            refine (refSigns_any _).mono ?_
            rintro e w1 ⟨rfl, rfl⟩
            have hB1 : Below w.heap.size w ((w.drewN nq).alloc (.cells SG 9)) := hB0.alloc (Nat.le_refl _) _
            go_wp2_with fail
            refine (refIn_any signAt 28 _ 28 s _ (by omega) (fun i hi => (World.cell?_alloc_new (w.drewN nq) SG 9 i).trans (SG_at i hi))).mono ?_
            rintro e w1 ⟨rfl, rfl⟩
            cases hin : inTo signAt s 28 with
            | true =>
              go_wp2_with fail
              go_ret
              exact ⟨_, rfl, by rw [← HAL.out, HW.out]; rfl, by omega, hB1⟩
            | false =>
              cases b5 <;> cases b6
              all_goals
                go_wp2_with fail
                go_ret
                exact ⟨_, rfl, by rw [← HAL.out, HW.out]; rfl, by omega, hB1⟩

theorem inTo_iff (f : Nat → ByteArray) (s : ByteArray) (n : Nat) : inTo f s n = true ↔ ∃ i, i < n ∧ (f i).toList = s.toList := by
  induction n with
  | zero => simp [inTo]
  | succ n ih =>
    rw [inTo_succ, Bool.or_eq_true, ih]
    constructor
    · rintro (⟨i, hi, h⟩ | h)
      · exact ⟨i, by omega, h⟩
      · exact ⟨n, by omega, by simpa using h⟩
    · rintro ⟨i, hi, h⟩
      by_cases e : i = n
      · subst e; exact .inr (by simpa using h)
      · exact .inl ⟨i, by omega, h⟩
theorem keyword_inTo (s : ByteArray) : inTo kwAt s 13 = Lx.keyword s.toList := by
  rw [Bool.eq_iff_iff, inTo_iff]
  unfold Lx.keyword
  rw [List.contains_iff_mem]
  constructor
  · rintro ⟨i, hi, h⟩
    rw [← h]
    have : ∀ i, i < 13 → Lx.kws.getD i [] ∈ Lx.kws := by decide
    have e : (kwAt i).toList = Lx.kws.getD i [] := by simp [kwAt, ByteArray.toList_eq]
    rw [e]; exact this i hi
  · intro h
    obtain ⟨i, hi⟩ := List.getElem?_of_mem h
    have hl : i < 13 := (List.getElem?_eq_some_iff.1 hi).1
    refine ⟨i, hl, ?_⟩
    have e : (kwAt i).toList = Lx.kws.getD i [] := by simp [kwAt, ByteArray.toList_eq]
    rw [e, List.getD_eq_getElem?_getD, hi]; rfl

set_option maxHeartbeats 1000000 in
theorem refName_any (s : ByteArray) (w : World) (hs : s.size ≤ 9223372036854775807) :
    Calls Tryd.prog 52 #[.string s] w fun e w' => e = .returned (.bool (Lx.name s.toList)) ∧ Below w.heap.size w w' := by
  have HV : Hid (Lx.name s.toList = (decide (s.size ≤ 12) && !Lx.keyword s.toList && Lx.startOk s.toList)) := by
    show _ = _; rw [← toList_len s]; rfl
  go_enter Tryd.func52, Tryd.ntmps52
  go_wp2_with fail
  refine (refKind_any s _ hs).mono ?_
  rintro e w1 ⟨k, rfl, hk, hkb, hB⟩
  cases hq : Lx.startOk s.toList with
  | false =>
    rw [hq] at hk
    go_wp2_with fail
    go_ret
    exact ⟨ret_bool' (by rw [HV.out, hq]; simp), hB⟩
  | true =>
    rw [hq] at hk
    by_cases h12 : s.size ≤ 12
    · have d12 : decide ((s.size : Int) ≤ 12) = true := by simp; omega
      go_wp2_with fail
      refine (refKeywords_any _).mono ?_
      rintro e w2 ⟨rfl, rfl⟩
      have hB1 : Below w.heap.size w (w1.alloc (.cells KW 9)) := hB.alloc hB.size _
      go_wp2_with fail
      refine (refIn_any kwAt 13 _ 13 s _ (by omega) (fun i hi => by go_simp; exact KW_at i hi)).mono ?_
      rintro e w2 ⟨rfl, rfl⟩
      rw [keyword_inTo]
      go_wp2_with fail
      go_ret
      exact ⟨ret_bool' (by rw [HV.out, hq]; simp [h12]), hB1⟩
    · have d12 : decide ((s.size : Int) ≤ 12) = false := by simp; omega
      go_wp2_with fail
      go_ret
      exact ⟨ret_bool' (by rw [HV.out, hq]; simp [h12]), hB⟩
end Go.Proofs.YtfkegjdgbnkicaaDoor
