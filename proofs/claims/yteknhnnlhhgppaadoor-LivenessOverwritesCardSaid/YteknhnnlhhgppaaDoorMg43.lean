/-
  Mg43: several texts in one (LiveForm19, LiveRows).
-/
import Derived.Test.YteknhnnlhhgppaaDoorLiveRef
import Derived.Test.YteknhnnlhhgppaaDoorLiveEq
import Derived.Test.YteknhnnlhhgppaaDoorLiveOf
/-
  Contracts: form (package ontimelaw19); slices.Index, slices.Contains of ints.
-/
namespace Go.Proofs.YteknhnnlhhgppaaDoor
set_option linter.unusedVariables false
set_option linter.unusedSimpArgs false
open Go.RowKit
set_option maxRecDepth 100000
set_option maxHeartbeats 16000000

theorem small_fits {f : Fn} (h : SmallF f) : f.blocks.length ≤ 1000 ∧ ∀ b ∈ f.blocks, b.code.length ≤ 1000000 := ⟨by have := h.bl; omega, fun b hb => by have := h.cd b hb; omega⟩
theorem formLaw_any (f : Fn) (aa ba : Option Addr) (ac bc : Nat) (w : World) (hf : FnAt w f aa ba) :
    Calls Tryd.prog 20 #[fnVal f.name f.regs aa f.arrays.length ac ba f.blocks.length bc] w (Tells (SmallF f ∧ FormF f) w) := by
  have HF := Lib.hid hf
  obtain ⟨n, hn⟩ : ∃ n, f.blocks.length = n := ⟨_, rfl⟩
  have HN := Lib.hid hn
  obtain ⟨W, hW⟩ : ∃ W : World, w.alloc (.cells #[.string f.name, .int .i64 f.regs, .slice aa f.arrays.length ac, .slice ba n bc] 25) = W := ⟨_, rfl⟩
  have hWs : W.heap.size = w.heap.size + 1 := by rw [← hW]; simp
  have HBW : Hid (Below w.heap.size w W) := by show Below _ _ _; rw [← hW]; exact (Below.refl _ _).alloc (Nat.le_refl _) _
  have HX : Hid (W.heap[w.heap.size]? = some (.cells #[.string f.name, .int .i64 f.regs, .slice aa f.arrays.length ac, .slice ba n bc] 25)) := by
    show _ = _
    rw [← hW]
    exact (MapKept.heap_alloc w _).1
  have HXC : Hid (∀ w', Below W.heap.size W w' → w'.cell? ⟨w.heap.size, 0, none⟩ = some (.string f.name) ∧ w'.cell? ⟨w.heap.size, 1, none⟩ = some (.int .i64 f.regs) ∧ w'.cell? ⟨w.heap.size, 2, none⟩ = some (.slice aa f.arrays.length ac) ∧ w'.cell? ⟨w.heap.size, 3, none⟩ = some (.slice ba n bc)) := fun w' h => by
    have h9 := (h.block _ (show w.heap.size < W.heap.size by omega)).trans HX.out
    exact ⟨cell_heap h9 0, cell_heap h9 1, cell_heap h9 2, cell_heap h9 3⟩
  obtain ⟨x0, x1, x2, x3⟩ := HXC.out W (Below.refl _ _)
  have QS : Hid (∀ w', Below w.heap.size w w' → Calls Tryd.prog 11 #[.agg #[.string f.name, .int .i64 f.regs, .slice aa f.arrays.length ac, .slice ba n bc]] w' (Tells (SmallF f) w')) := fun w' h => by
    have h9 := small_any f aa ba ac bc w' (HF.out.below h)
    rw [HN.out] at h9
    exact h9
  rw [hn]
  clear hf hn hWs
  go_enter Tryd.func20, Tryd.ntmps20
  go_wp2_with fail
  clear hW x0 x1 x2 x3
  refine (QS.out _ HBW.out).mono ?_
  rintro e w1 ⟨r, rfl, hr, hB⟩
  have HR := Lib.hid hr
  have HB1 : Hid (Below W.heap.size W w1) := hB
  have HBF : Hid (Below w.heap.size w w1) := below_step HBW.out hB
  clear hr hB
  cases r with
  | false =>
    go_wp2_with fail
    go_ret
    exact ⟨false, rfl, ⟨fun h => by simp at h, fun h => by have := HR.out.2 h.1; simp at this⟩, HBF.out⟩
  | true =>
    have HS := Lib.hid (HR.out.1 rfl)
    obtain ⟨x0, x1, x2, x3⟩ := HXC.out w1 HB1.out
    have hfit := small_fits HS.out
    have HFIT := Lib.hid hfit
    have QP : Hid (∀ w', Below w.heap.size w w' → Calls Tryd.prog 13 #[.agg #[.string f.name, .int .i64 f.regs, .slice aa f.arrays.length ac, .slice ba n bc]] w' (fun e w'' => ∃ ba' bc', e = .returned (fnVal f.name f.regs aa f.arrays.length ac ba' n bc') ∧ FnAt w'' f aa ba' ∧ Below w'.heap.size w' w'')) := fun w' h => by
      have h9 := plain_any f aa ba ac bc w' (HF.out.below h) (by have := HFIT.out.1; omega) HFIT.out.2
      rw [HN.out] at h9
      exact h9
    clear hfit
    go_wp2_with fail
    clear x0 x1 x2 x3
    refine (QP.out _ HBF.out).mono ?_
    rintro e w2 ⟨ba', bc', rfl, hf2, hB2⟩
    have QF : Hid (Calls Tryd.prog 14 #[fnVal f.name f.regs aa f.arrays.length ac ba' n bc'] w2 (Tells (FormF f) w2)) := by
      have h9 := form_any f aa ba' ac bc' w2 hf2 HFIT.out.1 HFIT.out.2
      rw [HN.out] at h9
      exact h9
    have HB2 : Hid (Below w.heap.size w w2) := below_step HBF.out hB2
    clear hf2 hB2
    go_wp2_with fail
    refine QF.out.mono ?_
    rintro e w3 ⟨r3, rfl, hr3, hB3⟩
    have HR3 := Lib.hid hr3
    have HB3 : Hid (Below w.heap.size w w3) := below_step HB2.out hB3
    clear hr3 hB3
    go_wp2_with fail
    go_ret
    exact ⟨r3, rfl, ⟨fun h => ⟨HS.out, HR3.out.1 h⟩, fun h => HR3.out.2 h.2⟩, HB3.out⟩
/-- where x stands first, or -1 -/
theorem index_any (l : List Int) (x : Int) (va : Value) (w : World) (ha : IntsAt w va l) (hl : l.length ≤ 1000000) :
    Calls Tryd.prog 51 #[va, .int .i64 x] w fun e w' => (∃ k : Int, e = .returned (.int .i64 k) ∧ (0 ≤ k ↔ x ∈ l) ∧ -1 ≤ k ∧ k ≤ 1000000) ∧ ∃ m, w' = World.drewN w m := by
  obtain ⟨a, c, rfl, hla⟩ := ha
  have HLA := Lib.hid hla
  clear hla
  obtain ⟨n, hn⟩ : ∃ n, l.length = n := ⟨_, rfl⟩
  have HN := Lib.hid hn
  rw [hn] at hl ⊢
  clear hn
  go_enter Tryd.func51, Tryd.ntmps51
  go_wp2_with fail
  go_loopw [8] (fun i wr => ∃ j : Nat, j ≤ n ∧ i = .int .i64 (j : Int) ∧ x ∉ l.take j ∧ wr = w) (fun i _ => n - (intOf i).toNat)
  case atStart => exact ⟨0, Nat.zero_le _, rfl, by simp, rfl⟩
  case round =>
    obtain ⟨j, hj, rfl, htk, rfl⟩ := hrel
    have HTK := Lib.hid htk
    have hj0 : (0 : Int) ≤ (j : Int) := by omega
    clear htk
    by_cases hlt : j < n
    · have hlt2 : (j : Int) < (n : Int) := by omega
      obtain ⟨y, hy⟩ : ∃ y, l[j]? = some y := ⟨_, List.getElem?_eq_getElem (by rw [HN.out]; exact hlt)⟩
      have HY := Lib.hid hy
      rcases HLA.out with h0 | ⟨lb, lo, rfl, _, hc⟩
      · have := HN.out; omega
      have c1 := hc j y hy
      clear hc hy
      by_cases hxy : x = y
      · have e2 : (x == y) = true := by simp [hxy]
        have HIN : Hid (x ∈ l) := by show _ ∈ _; rw [hxy]; exact List.mem_of_getElem? HY.out
        clear hxy
        go_wp2_with fail
        go_ret
        exact ⟨⟨(j : Int), rfl, ⟨fun _ => HIN.out, fun _ => hj0⟩, by omega, by omega⟩, 0, rfl⟩
      · have e2 : (x == y) = false := by simp [hxy]
        have HNX : Hid (x ∉ l.take (j + 1)) := by
          show _ ∉ _
          rw [take_snoc HY.out]
          simp [hxy]
          exact HTK.out
        clear hxy
        go_wp2_with fail
        exact ⟨⟨j + 1, by omega, by go_num, HNX.out, trivial⟩, by simp [intOf]; omega⟩
    · obtain rfl : n = j := by omega
      have HNI : Hid (x ∉ l) := by have := HTK.out; rwa [List.take_of_length_le (by rw [HN.out]; exact Nat.le_refl _)] at this
      go_wp2_with fail
      go_ret
      exact ⟨⟨-1, rfl, ⟨fun h => absurd h (by decide), fun h => absurd h HNI.out⟩, by omega, by omega⟩, 0, rfl⟩
theorem contains_any' (l : List Int) (x : Int) (va : Value) (w : World) (ha : IntsAt w va l) (hl : l.length ≤ 1000000) :
    Calls Tryd.prog 26 #[va, .int .i64 x] w fun e w' => e = .returned (.bool (decide (x ∈ l))) ∧ ∃ m, w' = World.drewN w m := by
  have HA := Lib.hid ha
  obtain ⟨a, c, rfl, _⟩ := ha
  obtain ⟨n, hn⟩ : ∃ n, l.length = n := ⟨_, rfl⟩
  have HN := Lib.hid hn
  rw [hn] at HA hl ⊢
  clear hn
  go_enter Tryd.func26, Tryd.ntmps26
  go_wp2_with fail
  refine (index_any l x _ _ HA.out (by rw [HN.out]; exact hl)).mono ?_
  rintro e w1 ⟨⟨k, rfl, hk, hk1, hk2⟩, m, hm⟩
  have HM := Lib.hid hm
  by_cases h0 : 0 ≤ k
  · have hd : decide (x ∈ l) = true := by simpa using hk.1 h0
    have HD := Lib.hid hd
    clear hd hk hm
    go_wp2_with fail
    go_ret
    exact ⟨by rw [HD.out]; rfl, m, HM.out⟩
  · have hd : decide (x ∈ l) = false := by simpa using fun h => h0 (hk.2 h)
    have HD := Lib.hid hd
    have h0d : decide (0 ≤ k) = false := by simpa using h0
    clear hd hk hm
    go_wp2_with fail
    go_ret
    exact ⟨by rw [HD.out]; simp [h0d], m, HM.out⟩
end Go.Proofs.YteknhnnlhhgppaaDoor

/-
  Small laws of layer 19: equal lists; rows of rows; a store of what is there.
-/
namespace Go.Proofs.YteknhnnlhhgppaaDoor
set_option linter.unusedVariables false
set_option linter.unusedSimpArgs false
open Go.RowKit
set_option maxRecDepth 100000
set_option maxHeartbeats 4000000

theorem intsSame_any (l : List Int) (va vb : Value) (w : World) (ha : IntsAt w va l) (hb : IntsAt w vb l) (hl : l.length ≤ 1000000) :
    Calls Tryd.prog 16 #[va, vb] w fun e w' => e = .returned (.bool true) ∧ Below w.heap.size w w' :=
  (intsEqual_any l l va vb w ha hb hl hl).mono fun e w' ⟨he, k, hk⟩ => ⟨by rw [he]; simp, by rw [hk]; exact ⟨rfl, rfl, rfl, Nat.le_refl _, fun _ _ => rfl⟩⟩
theorem below_draw1 {W w1 : World} (h : Below W.heap.size W w1) : Below W.heap.size W w1.drew := ⟨h.os, h.tape, h.output, h.size, h.block⟩
theorem setCell_self {w : World} {b o : Nat} {v : Value} (h : w.cell? ⟨b, o, none⟩ = some v) : w.setCell ⟨b, o, none⟩ v = w := by
  have e : (w.setCell ⟨b, o, none⟩ v).heap = w.heap := by
    apply Array.ext_getElem?
    intro i
    simp only [World.setCell, Array.getElem?_modify]
    by_cases hb : b = i
    · subst hb
      rw [if_pos rfl]
      unfold World.cell? at h
      cases hc : w.heap[b]? with
      | none => rfl
      | some x =>
        rw [hc] at h
        match x, h with
        | .cells c e2 fz, h =>
          simp only [Option.isSome_none, Bool.false_eq_true, if_false, Option.map_some] at h ⊢
          congr 2
          apply Array.ext_getElem?
          intro j
          rw [Array.getElem?_setIfInBounds]
          by_cases hj : o = j
          · subst hj
            have hlt : o < c.size := (Array.getElem?_eq_some_iff.1 h).1
            rw [if_pos rfl, if_pos hlt, h]
          · rw [if_neg hj]
    · rw [if_neg hb]
  have e2 : w.setCell ⟨b, o, none⟩ v = { w with heap := (w.setCell ⟨b, o, none⟩ v).heap } := rfl
  rw [e2, e]
theorem row_get {rows : List (Value × List Int)} {xs : List Nat} {j : Nat} (h : rows.map (·.2) = xs.map listB) (hj : j < xs.length) : ∃ u, rows[j]? = some (u, listB (xs.getD j 0)) := by
  have h1 : (rows.map (·.2))[j]? = some (listB (xs.getD j 0)) := by
    rw [h, List.getElem?_map, List.getElem?_eq_getElem hj, getD_at _ _ hj]
    rfl
  rw [List.getElem?_map] at h1
  obtain ⟨p, hp, hp2⟩ := Option.map_eq_some_iff.1 h1
  exact ⟨p.1, by rw [hp, ← hp2]⟩
theorem IRows.get {B : Nat} {w : World} {v u : Value} {rows : List (Value × List Int)} {l : List Int} {j : Nat} (h : IRows B w v rows) (hj : rows[j]? = some (u, l)) : IntsAt w u l :=
  (h.ri _ (List.mem_of_getElem? hj)).at_
theorem IRows.cellAt {B n c g j : Nat} {w : World} {u : Value} {rows : List (Value × List Int)} {l : List Int} (h : IRows B w (.slice (some ⟨g, 0, none⟩) n c) rows) (hj : rows[j]? = some (u, l)) : w.cell? ⟨g, j, none⟩ = some u :=
  own_cell h.ro (by rw [List.getElem?_map, hj]; rfl)
end Go.Proofs.YteknhnnlhhgppaaDoor
