/-
  Contracts: the first token of a text as far as names need it, and names (package lexer).
-/
import Derived.Test.YtkpdngfkdmllkaaDoorLexName
import Derived.Below
namespace Go.Proofs.YtkpdngfkdmllkaaDoor
set_option linter.unusedVariables false
set_option linter.unusedSimpArgs false
open Go.RowKit
set_option maxRecDepth 100000

/-- the signs, as package lexer's table holds them -/
def signTab : List ByteArray := [⟨#[60, 60]⟩, ⟨#[62, 62]⟩, ⟨#[60, 61]⟩, ⟨#[62, 61]⟩, ⟨#[61, 61]⟩, ⟨#[33, 61]⟩, ⟨#[38, 38]⟩, ⟨#[124, 124]⟩, ⟨#[43]⟩, ⟨#[45]⟩, ⟨#[42]⟩, ⟨#[47]⟩, ⟨#[37]⟩, ⟨#[38]⟩, ⟨#[124]⟩, ⟨#[94]⟩, ⟨#[60]⟩, ⟨#[62]⟩, ⟨#[33]⟩, ⟨#[61]⟩, ⟨#[91]⟩, ⟨#[93]⟩, ⟨#[123]⟩, ⟨#[125]⟩, ⟨#[40]⟩, ⟨#[41]⟩, ⟨#[59]⟩, ⟨#[44]⟩]
def SG : Array Value := #[.string ⟨#[60, 60]⟩, .string ⟨#[62, 62]⟩, .string ⟨#[60, 61]⟩, .string ⟨#[62, 61]⟩, .string ⟨#[61, 61]⟩, .string ⟨#[33, 61]⟩, .string ⟨#[38, 38]⟩, .string ⟨#[124, 124]⟩, .string ⟨#[43]⟩, .string ⟨#[45]⟩, .string ⟨#[42]⟩, .string ⟨#[47]⟩, .string ⟨#[37]⟩, .string ⟨#[38]⟩, .string ⟨#[124]⟩, .string ⟨#[94]⟩, .string ⟨#[60]⟩, .string ⟨#[62]⟩, .string ⟨#[33]⟩, .string ⟨#[61]⟩, .string ⟨#[91]⟩, .string ⟨#[93]⟩, .string ⟨#[123]⟩, .string ⟨#[125]⟩, .string ⟨#[40]⟩, .string ⟨#[41]⟩, .string ⟨#[59]⟩, .string ⟨#[44]⟩]
def signAt (j : Nat) : ByteArray := signTab.getD j ⟨#[]⟩
theorem sign_size (j : Nat) : (signAt j).size ≤ 2 := by
  by_cases h : j < 28
  · have : ∀ j, j < 28 → (signAt j).size ≤ 2 := by decide
    exact this j h
  · unfold signAt; rw [List.getD_eq_getElem?_getD, List.getElem?_eq_none (by simp [signTab]; omega)]; decide
/-- the table lies in the memory -/
def SignsIn (w : World) : Prop := ∃ t fr, w.heap[0]? = some (.cells SG t fr)
theorem SignsIn.below {w w' : World} (h : SignsIn w) (hb : Below w.heap.size w w') : SignsIn w' := by
  obtain ⟨t, fr, h⟩ := h
  exact ⟨t, fr, (hb.block _ (Array.getElem?_eq_some_iff.1 h).1).trans h⟩
theorem sign_index0 (w : World) : (Instr.index 147 (.agg SG) (.int .i64 ((0 : Nat) : Int))).run Tryd.prog w = .ok (.string (signAt 0)) w := by kernel_rfl
theorem sign_index1 (w : World) : (Instr.index 147 (.agg SG) (.int .i64 ((1 : Nat) : Int))).run Tryd.prog w = .ok (.string (signAt 1)) w := by kernel_rfl
theorem sign_index2 (w : World) : (Instr.index 147 (.agg SG) (.int .i64 ((2 : Nat) : Int))).run Tryd.prog w = .ok (.string (signAt 2)) w := by kernel_rfl
theorem sign_index3 (w : World) : (Instr.index 147 (.agg SG) (.int .i64 ((3 : Nat) : Int))).run Tryd.prog w = .ok (.string (signAt 3)) w := by kernel_rfl
theorem sign_index4 (w : World) : (Instr.index 147 (.agg SG) (.int .i64 ((4 : Nat) : Int))).run Tryd.prog w = .ok (.string (signAt 4)) w := by kernel_rfl
theorem sign_index5 (w : World) : (Instr.index 147 (.agg SG) (.int .i64 ((5 : Nat) : Int))).run Tryd.prog w = .ok (.string (signAt 5)) w := by kernel_rfl
theorem sign_index6 (w : World) : (Instr.index 147 (.agg SG) (.int .i64 ((6 : Nat) : Int))).run Tryd.prog w = .ok (.string (signAt 6)) w := by kernel_rfl
theorem sign_index7 (w : World) : (Instr.index 147 (.agg SG) (.int .i64 ((7 : Nat) : Int))).run Tryd.prog w = .ok (.string (signAt 7)) w := by kernel_rfl
theorem sign_index8 (w : World) : (Instr.index 147 (.agg SG) (.int .i64 ((8 : Nat) : Int))).run Tryd.prog w = .ok (.string (signAt 8)) w := by kernel_rfl
theorem sign_index9 (w : World) : (Instr.index 147 (.agg SG) (.int .i64 ((9 : Nat) : Int))).run Tryd.prog w = .ok (.string (signAt 9)) w := by kernel_rfl
theorem sign_index10 (w : World) : (Instr.index 147 (.agg SG) (.int .i64 ((10 : Nat) : Int))).run Tryd.prog w = .ok (.string (signAt 10)) w := by kernel_rfl
theorem sign_index11 (w : World) : (Instr.index 147 (.agg SG) (.int .i64 ((11 : Nat) : Int))).run Tryd.prog w = .ok (.string (signAt 11)) w := by kernel_rfl
theorem sign_index12 (w : World) : (Instr.index 147 (.agg SG) (.int .i64 ((12 : Nat) : Int))).run Tryd.prog w = .ok (.string (signAt 12)) w := by kernel_rfl
theorem sign_index13 (w : World) : (Instr.index 147 (.agg SG) (.int .i64 ((13 : Nat) : Int))).run Tryd.prog w = .ok (.string (signAt 13)) w := by kernel_rfl
theorem sign_index14 (w : World) : (Instr.index 147 (.agg SG) (.int .i64 ((14 : Nat) : Int))).run Tryd.prog w = .ok (.string (signAt 14)) w := by kernel_rfl
theorem sign_index15 (w : World) : (Instr.index 147 (.agg SG) (.int .i64 ((15 : Nat) : Int))).run Tryd.prog w = .ok (.string (signAt 15)) w := by kernel_rfl
theorem sign_index16 (w : World) : (Instr.index 147 (.agg SG) (.int .i64 ((16 : Nat) : Int))).run Tryd.prog w = .ok (.string (signAt 16)) w := by kernel_rfl
theorem sign_index17 (w : World) : (Instr.index 147 (.agg SG) (.int .i64 ((17 : Nat) : Int))).run Tryd.prog w = .ok (.string (signAt 17)) w := by kernel_rfl
theorem sign_index18 (w : World) : (Instr.index 147 (.agg SG) (.int .i64 ((18 : Nat) : Int))).run Tryd.prog w = .ok (.string (signAt 18)) w := by kernel_rfl
theorem sign_index19 (w : World) : (Instr.index 147 (.agg SG) (.int .i64 ((19 : Nat) : Int))).run Tryd.prog w = .ok (.string (signAt 19)) w := by kernel_rfl
theorem sign_index20 (w : World) : (Instr.index 147 (.agg SG) (.int .i64 ((20 : Nat) : Int))).run Tryd.prog w = .ok (.string (signAt 20)) w := by kernel_rfl
theorem sign_index21 (w : World) : (Instr.index 147 (.agg SG) (.int .i64 ((21 : Nat) : Int))).run Tryd.prog w = .ok (.string (signAt 21)) w := by kernel_rfl
theorem sign_index22 (w : World) : (Instr.index 147 (.agg SG) (.int .i64 ((22 : Nat) : Int))).run Tryd.prog w = .ok (.string (signAt 22)) w := by kernel_rfl
theorem sign_index23 (w : World) : (Instr.index 147 (.agg SG) (.int .i64 ((23 : Nat) : Int))).run Tryd.prog w = .ok (.string (signAt 23)) w := by kernel_rfl
theorem sign_index24 (w : World) : (Instr.index 147 (.agg SG) (.int .i64 ((24 : Nat) : Int))).run Tryd.prog w = .ok (.string (signAt 24)) w := by kernel_rfl
theorem sign_index25 (w : World) : (Instr.index 147 (.agg SG) (.int .i64 ((25 : Nat) : Int))).run Tryd.prog w = .ok (.string (signAt 25)) w := by kernel_rfl
theorem sign_index26 (w : World) : (Instr.index 147 (.agg SG) (.int .i64 ((26 : Nat) : Int))).run Tryd.prog w = .ok (.string (signAt 26)) w := by kernel_rfl
theorem sign_index27 (w : World) : (Instr.index 147 (.agg SG) (.int .i64 ((27 : Nat) : Int))).run Tryd.prog w = .ok (.string (signAt 27)) w := by kernel_rfl
theorem sign_index : ∀ j, j < 28 → ∀ w : World, (Instr.index 147 (.agg SG) (.int .i64 (j : Nat))).run Tryd.prog w = .ok (.string (signAt j)) w := by
  intro j hj w
  have hc : j = 0 ∨ j = 1 ∨ j = 2 ∨ j = 3 ∨ j = 4 ∨ j = 5 ∨ j = 6 ∨ j = 7 ∨ j = 8 ∨ j = 9 ∨ j = 10 ∨ j = 11 ∨ j = 12 ∨ j = 13 ∨ j = 14 ∨ j = 15 ∨ j = 16 ∨ j = 17 ∨ j = 18 ∨ j = 19 ∨ j = 20 ∨ j = 21 ∨ j = 22 ∨ j = 23 ∨ j = 24 ∨ j = 25 ∨ j = 26 ∨ j = 27 := by omega
  rcases hc with rfl | rfl | rfl | rfl | rfl | rfl | rfl | rfl | rfl | rfl | rfl | rfl | rfl | rfl | rfl | rfl | rfl | rfl | rfl | rfl | rfl | rfl | rfl | rfl | rfl | rfl | rfl | rfl
  · exact sign_index0 w
  · exact sign_index1 w
  · exact sign_index2 w
  · exact sign_index3 w
  · exact sign_index4 w
  · exact sign_index5 w
  · exact sign_index6 w
  · exact sign_index7 w
  · exact sign_index8 w
  · exact sign_index9 w
  · exact sign_index10 w
  · exact sign_index11 w
  · exact sign_index12 w
  · exact sign_index13 w
  · exact sign_index14 w
  · exact sign_index15 w
  · exact sign_index16 w
  · exact sign_index17 w
  · exact sign_index18 w
  · exact sign_index19 w
  · exact sign_index20 w
  · exact sign_index21 w
  · exact sign_index22 w
  · exact sign_index23 w
  · exact sign_index24 w
  · exact sign_index25 w
  · exact sign_index26 w
  · exact sign_index27 w
theorem Tryd.signsInfo : (Tryd.prog.info? 147).map (·.size) = some SG.size := by kernel_rfl

set_option maxHeartbeats 1000000 in
theorem first_letter (s : ByteArray) (w : World) (hs : s.size ≤ 9223372036854775807) (h1 : 0 < s.size) (hl : Lx.letter s[0].toNat = true) :
    Calls Tryd.prog 72 #[.string s] w fun e w' => e = .returned (.tuple #[.int .u8 1, .int .i64 ((1 + Lx.run Lx.inner (s.toList.drop 1) : Nat) : Int)]) ∧ Below w.heap.size w w' := by
  obtain ⟨N, hN⟩ : ∃ N : Nat, 1 + Lx.run Lx.inner (s.toList.drop 1) = N := ⟨_, rfl⟩
  rw [hN]
  have HN := Lib.hid hN
  clear hN
  go_enter Tryd.func72, Tryd.ntmps72
  go_wp2_with (go_at_call 87; refine (isLetter_any _ _).mono ?_; rintro e w1 ⟨rfl, rfl⟩)
  refine (countInner _ s _ hs h1 (by go_simp)).mono ?_
  rintro e w1 ⟨rfl, rfl⟩
  rw [HN.out]
  go_wp2_with fail
  go_ret2
  exact ⟨rfl, (Below.refl _ _).alloc (Nat.le_refl _) _⟩

/-- a token that is no word -/
def NoWord (w : World) (e : Ending) (w' : World) : Prop := ∃ (k n : Int), e = .returned (.tuple #[.int .u8 k, .int .i64 n]) ∧ (k == 1) = false ∧ Below w.heap.size w w'

set_option maxHeartbeats 1000000 in
theorem first_other (s : ByteArray) (w : World) (hs : s.size ≤ 9223372036854775807) (h1 : 0 < s.size) (hl : Lx.letter s[0].toNat = false) (hg : SignsIn w) :
    Calls Tryd.prog 72 #[.string s] w (NoWord w) := by
  have hB0 : Below w.heap.size w (w.alloc (.cells #[.string s] 9)) := (Below.refl _ _).alloc (Nat.le_refl _) _
  obtain ⟨t, fr, hgg⟩ := hg.below hB0
  have HG := Lib.hid hgg
  clear hgg hg
  cases hd : Lx.digit s[0].toNat with
  | true =>
    go_enter Tryd.func72, Tryd.ntmps72
    go_wp2_with (first | (go_at_call 87; refine (isLetter_any _ _).mono ?_; rintro e w1 ⟨rfl, rfl⟩) | (go_at_call 89; refine (isDigit_any _ _).mono ?_; rintro e w1 ⟨rfl, rfl⟩))
    refine (countDigit _ s _ hs h1 (by go_simp)).mono ?_
    rintro e w1 ⟨rfl, rfl⟩
    go_wp2_with fail
    go_ret2
    exact ⟨_, _, rfl, rfl, hB0⟩
  | false =>
    cases hsp : Lx.space s[0].toNat with
    | true =>
      go_enter Tryd.func72, Tryd.ntmps72
      go_wp2_with (first | (go_at_call 87; refine (isLetter_any _ _).mono ?_; rintro e w1 ⟨rfl, rfl⟩) | (go_at_call 89; refine (isDigit_any _ _).mono ?_; rintro e w1 ⟨rfl, rfl⟩) | (go_at_call 90; refine (isSpace_any _ _).mono ?_; rintro e w1 ⟨rfl, rfl⟩))
      refine (countSpace _ s _ hs h1 (by go_simp)).mono ?_
      rintro e w1 ⟨rfl, rfl⟩
      go_wp2_with fail
      go_ret2
      exact ⟨_, _, rfl, rfl, hB0⟩
    | false =>
      cases hh : ((s[0].toNat : Int) == 35) with
      | true =>
        go_enter Tryd.func72, Tryd.ntmps72
        go_wp2_with (first | (go_at_call 87; refine (isLetter_any _ _).mono ?_; rintro e w1 ⟨rfl, rfl⟩) | (go_at_call 89; refine (isDigit_any _ _).mono ?_; rintro e w1 ⟨rfl, rfl⟩) | (go_at_call 90; refine (isSpace_any _ _).mono ?_; rintro e w1 ⟨rfl, rfl⟩))
        refine (countOther _ s _ hs h1 (by go_simp)).mono ?_
        rintro e w1 ⟨rfl, rfl⟩
        go_wp2_with fail
        go_ret2
        exact ⟨_, _, rfl, rfl, hB0⟩
      | false =>
        have hcell : (w.alloc (.cells #[.string s] 9)).cell? ⟨w.heap.size, 0, none⟩ = some (.string s) := by go_simp
        go_enter Tryd.func72, Tryd.ntmps72
        go_wp2_with (first | (go_at_call 87; refine (isLetter_any _ _).mono ?_; rintro e w1 ⟨rfl, rfl⟩) | (go_at_call 89; refine (isDigit_any _ _).mono ?_; rintro e w1 ⟨rfl, rfl⟩) | (go_at_call 90; refine (isSpace_any _ _).mono ?_; rintro e w1 ⟨rfl, rfl⟩) | (with_reducible refine wpList_load_row rfl 147 _ rfl 0 rfl t SG fr _ HG.out Tryd.underlying147 rfl Tryd.signsInfo ?_))
        go_loop [32] (fun i => ∃ j : Nat, j ≤ 28 ∧ i = .int .i64 j) (fun i => 28 - (intOf i).toNat)
        case atStart => exact ⟨0, by omega, rfl⟩
        case round =>
          obtain ⟨j, hj, rfl⟩ := hrel
          by_cases hlt : j < 28
          · have hix := sign_index j hlt
            have hsz := sign_size j
            go_wp2_with fail
            refine (hasPrefix_any _ _ _ hs (by omega)).mono ?_
            rintro e w1 ⟨b, rfl, rfl⟩
            cases b with
            | true =>
              go_wp2_with fail
              go_ret2
              exact ⟨_, _, rfl, rfl, hB0⟩
            | false =>
              go_wp2_with fail
              go_round
              case rel => exact ⟨j + 1, by omega, by go_num⟩
              case measure => simp [intOf]; omega
          · go_wp2_with fail
            go_ret2
            exact ⟨_, _, rfl, rfl, hB0⟩

theorem toList_cons (s : ByteArray) (h : 0 < s.size) : s.toList = s[0] :: s.toList.drop 1 := by
  have e : s.toList.drop 0 = s[0] :: s.toList.drop (0 + 1) := by
    rw [List.drop_eq_getElem_cons (by simpa [ByteArray.toList_eq] using h)]
    congr 1
    simp [ByteArray.toList_eq]; rfl
  simpa using e
theorem toList_len (s : ByteArray) : s.toList.length = s.size := by simp [ByteArray.toList_eq]

set_option maxHeartbeats 1000000 in
theorem name_any (s : ByteArray) (w : World) (hs : s.size ≤ 9223372036854775807) (hg : SignsIn w) :
    Calls Tryd.prog 52 #[.string s] w fun e w' => e = .returned (.bool (Lx.name s.toList)) ∧ Below w.heap.size w w' := by
  have HG := Lib.hid hg
  clear hg
  by_cases h0 : s.size = 0
  · have e : s = ⟨#[]⟩ := bytes_eq (by have := toList_len s; rw [h0] at this; exact List.length_eq_zero_iff.1 this)
    subst e
    clear h0
    go_enter Tryd.func52, Tryd.ntmps52
    go_wp2_with fail
    go_ret
    exact ⟨ret_bool' (by simp [ByteArray.toList_eq, Lx.name, Lx.startOk]), Below.refl _ _⟩
  · have h1 : 0 < s.size := by omega
    have hE := toList_cons s h1
    have hL := toList_len s
    have n1 : s.toList.isEmpty = false := by rw [hE]; rfl
    have n2 : (s.toList == []) = false := by rw [hE]; rfl
    have n3 : ¬ s.toList = [] := by rw [hE]; simp
    have HV : Hid (Lx.name s.toList = (decide (s.size ≤ 12) && !Lx.keyword s.toList && (Lx.letter s[0].toNat && (s.toList.drop 1).all (fun c => Lx.inner c.toNat)))) := by
      show _ = _
      rw [← hL]
      unfold Lx.name
      have : Lx.startOk s.toList = (Lx.letter s[0].toNat && (s.toList.drop 1).all (fun c => Lx.inner c.toNat)) := by
        conv => lhs; rw [hE]
        rfl
      rw [this]
    clear hE h0
    have HL := Lib.hid hL
    clear hL
    by_cases h12 : s.size ≤ 12
    · have d12 : decide ((12 : Int) < (s.size : Int)) = false := by simp; omega
      cases hk : Lx.keyword s.toList with
      | true =>
        go_enter Tryd.func52, Tryd.ntmps52
        go_wp2_with (go_at_call 71; refine (keyword_any _ _).mono ?_; rintro e w1 ⟨rfl, rfl⟩)
        go_ret
        exact ⟨ret_bool' (by rw [HV.out, hk]; simp), Below.refl _ _⟩
      | false =>
        cases hl : Lx.letter s[0].toNat with
        | true =>
          have HR := Lib.hid (Lx.run_all Lx.inner (s.toList.drop 1))
          have HD : Hid ((s.toList.drop 1).length = s.size - 1) := by show _ = _; rw [List.length_drop, HL.out]
          by_cases hr : 1 + Lx.run Lx.inner (s.toList.drop 1) = s.size
          · have HA : Hid ((s.toList.drop 1).all (fun c => Lx.inner c.toNat) = true) := HR.out.1 (by rw [HD.out]; omega)
            obtain ⟨N, hN⟩ : ∃ N : Nat, 1 + Lx.run Lx.inner (s.toList.drop 1) = N := ⟨_, rfl⟩
            have HN := Lib.hid hN
            rw [hN] at hr
            have q : ((N : Int) == (s.size : Int)) = true := by rw [hr]; simp
            clear hN
            have HQ := Lib.hid hr
            clear hr
            go_enter Tryd.func52, Tryd.ntmps52
            go_wp2_with (go_at_call 71; refine (keyword_any _ _).mono ?_; rintro e w1 ⟨rfl, rfl⟩)
            refine (first_letter s _ hs h1 hl).mono ?_
            rintro e w1 ⟨rfl, hB⟩
            rw [HN.out]
            go_wp2_with fail
            go_ret
            exact ⟨ret_bool' (by rw [HV.out, hk, hl, HA.out]; simp [h12]), hB⟩
          · have HA : Hid ((s.toList.drop 1).all (fun c => Lx.inner c.toNat) = false) := by
              show _ = _
              cases e : (s.toList.drop 1).all (fun c => Lx.inner c.toNat) with
              | false => rfl
              | true => have := HR.out.2 e; rw [HD.out] at this; omega
            obtain ⟨N, hN⟩ : ∃ N : Nat, 1 + Lx.run Lx.inner (s.toList.drop 1) = N := ⟨_, rfl⟩
            have HN := Lib.hid hN
            rw [hN] at hr
            have q : ((N : Int) == (s.size : Int)) = false := by simp; omega
            clear hN hr
            go_enter Tryd.func52, Tryd.ntmps52
            go_wp2_with (go_at_call 71; refine (keyword_any _ _).mono ?_; rintro e w1 ⟨rfl, rfl⟩)
            refine (first_letter s _ hs h1 hl).mono ?_
            rintro e w1 ⟨rfl, hB⟩
            rw [HN.out]
            go_wp2_with fail
            go_ret
            exact ⟨ret_bool' (by rw [HV.out, hk, hl, HA.out]; simp), hB⟩
        | false =>
          go_enter Tryd.func52, Tryd.ntmps52
          go_wp2_with (go_at_call 71; refine (keyword_any _ _).mono ?_; rintro e w1 ⟨rfl, rfl⟩)
          refine (first_other s _ hs h1 hl HG.out).mono ?_
          rintro e w1 ⟨k, n, rfl, hk1, hB⟩
          go_wp2_with fail
          go_ret
          exact ⟨ret_bool' (by rw [HV.out, hk, hl]; simp), hB⟩
    · have d : decide ((12 : Int) < (s.size : Int)) = true := by simp; omega
      go_enter Tryd.func52, Tryd.ntmps52
      go_wp2_with fail
      go_ret
      exact ⟨ret_bool' (by rw [HV.out]; simp [h12]), Below.refl _ _⟩
end Go.Proofs.YtkpdngfkdmllkaaDoor
