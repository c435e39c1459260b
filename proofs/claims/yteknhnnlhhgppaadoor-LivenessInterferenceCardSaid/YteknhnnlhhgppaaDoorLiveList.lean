/-
  Contracts: TrailingZeros64, list of a set (package liveness).
-/
import Derived.Test.YteknhnnlhhgppaaDoorLiveSet
import Derived.Test.YteknhnnlhhgppaaDoorMg8
import Derived.Shelf.Spec.TrailingZeros
namespace Go.Proofs.YteknhnnlhhgppaaDoor
set_option linter.unusedVariables false
set_option linter.unusedSimpArgs false
open Go.RowKit
set_option maxRecDepth 100000
set_option maxHeartbeats 4000000

/-- a row of ints of the call's own -/
def IntRow (B : Nat) (w : World) (v : Value) (xs : List Int) : Prop := w.ownsRow B 3 1 v xs.length (xs.map (Value.int .i64))
theorem IntRow.keep {B : Nat} {w w' : World} {v : Value} {xs : List Int} (h : IntRow B w v xs) (hB : Below w.heap.size w w') : IntRow B w' v xs := ownsRow_below h hB
theorem IntRow.nil {B : Nat} {w : World} : IntRow B w (.slice none 0 0) [] := World.ownsRow_nil _ _ _ _
theorem IntRow.own {B : Nat} {w : World} {v : Value} {xs : List Int} (h : IntRow B w v xs) {k : Nat} (hk : v.ownBlock = some k) : B ≤ k ∧ k < w.heap.size := ownsRow_lt h hk
theorem IntRow.val {B : Nat} {w : World} {v : Value} {xs : List Int} (h : IntRow B w v xs) : ∃ a c, v = .slice a xs.length c := ownsRow_val h
theorem IntRow.ints {B : Nat} {w : World} {v : Value} {xs : List Int} (h : IntRow B w v xs) : IntsIn (fun k => B ≤ k) w v xs := ints_of_row h
/-- append(l, x) -/
theorem wpList_append_int (w : World) {ops : Array Oper} {rest : List Oper} {o : Oper} {a : Act} {Q : Exit → Act → World → Prop}
    (hg : o.guard = none) (s x : Operand) (hop : o.op = Op.call { callee := Callee.builtin Builtin.append, args := #[s, x], argTypes := #[39, 39] })
    (B : Nat) (v : Value) (xs : List Int) (g : Nat) (y : Int) (hs : a.eval s = v) (hx : a.eval x = .slice (some ⟨g, 0, none⟩) 1 1) (hown : IntRow B w v xs)
    (hc : w.cell? ⟨g, 0, none⟩ = some (.int .i64 y)) (hl : xs.length ≤ 1000000) (hB : B ≤ w.heap.size)
    (hK : ∀ v' w', IntRow B w' v' (xs ++ [y]) → w.grownBy w' v.ownBlock → (v'.ownBlock = v.ownBlock ∨ v'.ownBlock = some w.heap.size) → wpList Tryd.prog ops Q rest (a.put o.dst v') w') :
    wpList Tryd.prog ops Q (o :: rest) a w := by
  obtain ⟨i0, hi, hz0, hz1, hz2⟩ := info_parts Tryd.infoInt
  refine wpList_append_src w hg s x 39 hop B 3 i0 _ 1 8 Tryd.underlying39 hi hz0 hz1 hz2 rfl (by decide) v xs.length (xs.map (Value.int .i64)) hs hown (some ⟨g, 0, none⟩) 1 1 [.int .i64 y] hx ?_ ?_ ?_ ?_ hB ?_
  · refine ⟨rfl, .inr ⟨⟨g, 0, none⟩, rfl, fun j u hu => ?_⟩⟩
    match j, hu with
    | 0, hu => simp at hu; subst hu; exact hc
  · intro q hq; simp at hq; subst hq; rfl
  · unfold maxLen; omega
  · omega
  · intro v' w' h1 h2 h3
    refine hK v' w' ?_ h2 h3
    unfold IntRow
    simpa using h1
theorem tab_keep {g : Nat} {tab : List Nat} {w w' : World} (h : TabAt g tab w) (hB : Below w.heap.size w w') : TabAt g tab w' := fun j hj => cell_below hB (h j hj)
theorem tz_all : ((List.range 4096).all fun s => s == 0 || (tzB s == Lib.ctz 64 s)) = true := by kernel_rfl
theorem tz_lt (s : Nat) : tzB s < 12 := by
  unfold tzB
  cases h : (List.range 12).find? (fun j => s.testBit j) with
  | none => decide
  | some j => exact List.mem_range.1 (List.mem_of_find?_eq_some h)
theorem tz_any (x : Nat) (w : World) (hx : x < 4096) (h0 : x ≠ 0) (hT : TabAt 0 Lib.deBruijn64tab w) :
    Calls Tryd.prog 76 #[.int .u64 (x : Int)] w fun e w' => e = .returned (.int .i64 (tzB x : Nat)) ∧ w' = w := by
  have e : tzB x = Lib.ctz 64 x := by
    have := List.all_eq_true.1 tz_all x (List.mem_range.2 hx)
    rw [Bool.or_eq_true] at this
    rcases this with h | h
    · exact absurd (by simpa using h) h0
    · exact eq_of_beq h
  rw [e]
  obtain ⟨hlow, hk⟩ := Lib.lowest_bit 64 x h0 (by omega)
  obtain ⟨hi, htab⟩ := Lib.deBruijn64_at _ hk
  have hcell := hT _ hi
  rw [htab] at hcell
  have hx0 : ((x : Int) == 0) = false := by simp; omega
  have key := tz64_key x _ (by omega) h0 hlow
  obtain ⟨kk, hkk⟩ : ∃ kk : Nat, Lib.ctz 64 x = kk := ⟨_, rfl⟩
  obtain ⟨idx, hidx⟩ : ∃ idx : Nat, 2 ^ Lib.ctz 64 x * 285870213051353865 % 18446744073709551616 / 288230376151711744 = idx := ⟨_, rfl⟩
  rw [hidx] at hcell key hi
  rw [hkk] at hcell hk ⊢
  clear hidx hkk htab hlow hT e
  go_enter Tryd.func76, Tryd.ntmps76
  go_wp2_with (simp only [key])
  go_ret
  exact ⟨rfl, rfl⟩
theorem list_any {B R s : Nat} {v : Value} (w : World) (h : SetV B R w v s) (hT : TabAt 0 Lib.deBruijn64tab w) :
    Calls Tryd.prog 42 #[v] w fun e w' => ∃ u, e = .returned u ∧ IntRow w.heap.size w' u (listB s) ∧ Below w.heap.size w w' := by
  have hs := h.small
  by_cases h0 : R = 0
  · subst h0
    have hz := h.zero
    subst hz
    obtain ⟨a, c, rfl⟩ := h.none
    have el : listB 0 = [] := by decide
    rw [el]
    clear h el hT
    go_enter Tryd.func42, Tryd.ntmps42
    go_wp2_with fail
    go_loopw [3, 8] (fun l i wr => l = .slice none 0 0 ∧ i = .int .i64 (0 : Int) ∧ wr = w) (fun _ _ _ => 0)
    case atStart => exact ⟨rfl, rfl, rfl⟩
    case round =>
      obtain ⟨rfl, rfl, rfl⟩ := hrel
      go_wp2_with fail
      go_ret
      exact ⟨_, rfl, IntRow.nil, Below.refl _ _⟩
  · have hr : 0 < R := by omega
    obtain ⟨g, c, rfl, hg1, hg2, hc, hz⟩ := h.cells hr
    have HT := Lib.hid hT
    clear h hT
    go_enter Tryd.func42, Tryd.ntmps42
    go_wp2_with fail
    go_loopw [3, 8] (fun l i wr => (l = .slice none 0 0 ∧ i = .int .i64 (0 : Int) ∧ wr = w) ∨ (i = .int .i64 (1 : Int) ∧ IntRow w.heap.size wr l (listB s) ∧ Below w.heap.size w wr)) (fun _ i _ => 1 - (intOf i).toNat)
    case atStart => exact .inl ⟨rfl, rfl, rfl⟩
    case round =>
      rcases hrel with ⟨rfl, rfl, rfl⟩ | ⟨rfl, hI, hB⟩
      · go_wp2_with fail
        obtain ⟨wo, rfl⟩ : ∃ wo : World, wo = wr := ⟨_, rfl⟩
        go_loopw [3, 5] (fun l u wi => ∃ (t : Nat) (dn : List Int), u = .int .u64 (t : Int) ∧ t ≤ s ∧ dn ++ listB t = listB s ∧ IntRow wo.heap.size wi l dn ∧ Below wo.heap.size wo wi) (fun _ u _ => (intOf u).toNat)
        case atStart => exact ⟨s, [], rfl, Nat.le_refl _, rfl, IntRow.nil, Below.refl _ _⟩
        case round =>
          obtain ⟨t, dn, rfl, ht, he, hI, hB⟩ := hrel
          have HE := Lib.hid he
          have HI := Lib.hid hI
          have HB := Lib.hid hB
          have hBs := hB.size
          obtain ⟨a, c2, rfl⟩ := hI.val
          clear he hI hB
          by_cases ht0 : t = 0
          · subst ht0
            go_wp2_with fail
            have h9 : dn = listB s := by
              have := HE.out
              rwa [show listB 0 = [] from by decide, List.append_nil] at this
            exact ⟨.inr ⟨rfl, h9 ▸ HI.out, HB.out⟩, by decide⟩
          · have htb : ((t : Int) == 0) = false := by simp; omega
            have HT2 : Hid (TabAt 0 Lib.deBruijn64tab wr) := tab_keep HT.out HB.out
            have htz : ((tzB t : Nat) : Int) < 12 := by have := tz_lt t; omega
            have hdl : dn.length ≤ 12 := by
              have := congrArg List.length HE.out
              rw [List.length_append] at this
              have := list_len s
              omega
            go_wp2_with fail
            refine (tz_any t _ (by omega) ht0 HT2.out).mono ?_
            rintro e w1 ⟨rfl, rfl⟩
            obtain ⟨V, hV⟩ : ∃ V : World, w1.alloc (.cells #[.int .i64 (tzB t : Nat)] 3) = V := ⟨_, rfl⟩
            have HBV : Hid (Below w1.heap.size w1 V) := by show Below _ _ _; rw [← hV]; exact (Below.refl _ _).alloc (Nat.le_refl _) _
            have hc9 : V.cell? ⟨w1.heap.size, 0, none⟩ = some (.int .i64 (tzB t : Nat)) := by rw [← hV]; exact World.cell?_alloc_new _ _ _ 0
            have HC9 := Lib.hid hc9
            clear hc9
            go_wp2_with (at_builtin; refine wpList_append_int _ rfl (.tmp 19) (.tmp 25) rfl wo.heap.size _ dn w1.heap.size (tzB t : Nat) rfl rfl (HI.out.keep HBV.out) HC9.out (by omega) (by have := HBV.out.size; omega) ?_)
            intro v' w2 hI2 hg2' _
            have HI2 := Lib.hid hI2
            have HB2 : Hid (Below wo.heap.size wo w2) := (below_step HB.out HBV.out).grown hg2' (by have := HBV.out.size; omega) (fun k hk => (HI.out.own hk).1)
            obtain ⟨a2, c3, rfl⟩ := hI2.val
            clear hI2 hg2' hV
            have ht1 : (0 : Int) < (t : Int) := by omega
            have hstep : Hid (dn ++ [((tzB t : Nat) : Int)] ++ listB (t &&& (t - 1)) = listB s) := by
              show _ = _
              rw [← HE.out, list_step (show t < 4096 by omega) ht0, List.append_assoc]
              rfl
            have hle : t &&& (t - 1) ≤ t - 1 := Nat.and_le_right
            have HW : Hid (bits .and .u64 (t : Int) ((t : Int) - 1) = ((t &&& (t - 1) : Nat) : Int)) := by
              show _ = _
              rw [show (t : Int) - 1 = ((t - 1 : Nat) : Int) by omega, bits_and _ _ (by omega) (by omega)]
            go_wp2_with fail
            rw [HW.out]
            exact ⟨⟨_, _, rfl, by omega, hstep.out, HI2.out, HB2.out⟩, by simp [intOf]; omega⟩
      · have HI := Lib.hid hI
        have HB := Lib.hid hB
        obtain ⟨a, c2, rfl⟩ := hI.val
        clear hI hB
        go_wp2_with fail
        go_ret
        exact ⟨_, rfl, HI.out, HB.out⟩
end Go.Proofs.YteknhnnlhhgppaaDoor
