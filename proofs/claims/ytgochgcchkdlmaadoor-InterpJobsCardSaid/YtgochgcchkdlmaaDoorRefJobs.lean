/-
  RefJobs: several texts in one (Ref16Q, Ref16R, Ref16A, Ref16I, Ref16J).
-/
import Derived.Test.YtgochgcchkdlmaaDoorPuts
import Derived.Test.YtgochgcchkdlmaaDoorRef16M
import Derived.Test.YtgochgcchkdlmaaDoorInMems
import Derived.Test.YtgochgcchkdlmaaDoorRefBlocks
import Derived.Test.YtgochgcchkdlmaaDoorInCopies
import Derived.Test.YtgochgcchkdlmaaDoorInJobs
/-
  Contract: every block and statement of the reference (package ontimeref16) does what the interpreter's does.
-/
namespace Go.Proofs.YtgochgcchkdlmaaDoor
set_option linter.unusedVariables false
set_option linter.unusedSimpArgs false
open Go.RowKit Go.Maps

theorem exec16_all (B : Nat) (F : Int) (inp : List Int) (ia : Option Addr) (ic : Nat) (hF : F ≤ 10000000) : ∀ (t : Tree) (N : List (ByteArray × Bool)) (y : Nat → Value), Dec N t → N.length + t.size ≤ 1000000 →
    (t.vld 115 = true → SOk B F inp ia ic N y 58 t (t.ex F inp)) ∧ (t.vld 98 = true → SOk B F inp ia ic N y 41 t (t.ex F inp)) := by
  intro t
  induction t using Tree.ind with
  | h t ih =>
    intro N y hd hs
    refine ⟨fun hv => ?_, fun hv => ?_⟩
    · obtain ⟨hk, _, hl, hkv⟩ := vldS hv
      have h0 : t.kind = 40 ∨ t.kind = 44 → 0 < t.len := fun hk => by rcases hk with hk | hk <;> rw [hl, hk] <;> decide
      obtain ⟨_, _, h3⟩ := (Dec_eq t h0).1 hd
      have hp := Tree.size_pos t
      refine stmt16_of t hF hv hd (by omega) (fun h42 i hi hv => ?_) (fun h42 y' => ?_)
      · have h4 := h3 i hi
        rw [if_neg h42] at h4
        have := Tree.size_kid hi
        exact (ih i hi N y h4 (by omega)).2 hv
      · have hi : 0 < t.len := by rw [hl, h42]; decide
        have h4 := h3 0 hi
        rw [if_pos h42] at h4
        have := Tree.size_kid hi
        have hv0 : (t.kid 0).vld 98 = true := by have h := hkv 0 hi; rw [h42] at h; exact h
        exact (ih 0 hi _ y' h4 (by rw [List.length_append]; show N.length + 1 + _ ≤ _; omega)).2 hv0
    · obtain ⟨h1, h2, _⟩ := vld_parts hv
      have h47 : t.kind = 47 := by
        unfold Fm.belongs at h1
        simpa using h1
      obtain ⟨_, _, h3⟩ := (Dec_eq t (fun hk => by omega)).1 hd
      have e : t.ex F inp = seqTo (kidX F inp t) t.len := by funext s; rw [Tree.ex_eq, if_pos h47]
      rw [e]
      refine block16_of t (fun i hi => ?_)
      have h4 := h3 i hi
      rw [if_neg (by omega)] at h4
      have := Tree.size_kid hi
      exact (ih i hi N y h4 (by omega)).1 (h2 h47 i hi)
end Go.Proofs.YtgochgcchkdlmaaDoor

/-
  Rows of cells that a call builds (package ontimeref16).
-/
namespace Go.Proofs.YtgochgcchkdlmaaDoor
set_option linter.unusedVariables false
set_option linter.unusedSimpArgs false
open Go.RowKit Go.Maps

/-- a row of cells of the call's own, with words of its own -/
structure CelRow (B : Nat) (w : World) (v : Value) (cs : List Cel) (y : Nat → Value) : Prop where
  row : w.ownsRow B 54 3 v cs.length (cwL cs y)
  own : ∀ (k : Nat) (c : Cel), cs[k]? = some c → w.ownsRow B 21 1 (y k) c.l.length (i32s c.l)
  fit : ∀ (k : Nat) (c : Cel), cs[k]? = some c → c.l.length ≤ 1000000 ∧ (∀ x ∈ c.l, Wd.W x) ∧ c.name.size ≤ 9223372036854775807 ∧ (c.arr = false → c.l.length = 1)
  apart : ∀ (k k' : Nat) (b : Nat), k < cs.length → k' < cs.length → (y k).ownBlock = some b → (y k').ownBlock = some b → k = k'
section
variable {B B' : Nat} {w w' : World} {v v' v2 : Value} {cs cs2 : List Cel} {y y2 : Nat → Value}
theorem CelRow.nil {B : Nat} {w : World} (y : Nat → Value) : CelRow B w (.slice none 0 0) [] y := ⟨World.ownsRow_nil _ _ _ _, fun k c h => by simp at h, fun k c h => by simp at h, fun k k' b h => by simp at h⟩
theorem CelRow.keep (h : CelRow B w v cs y) (hb : Below w.heap.size w w') : CelRow B w' v cs y := ⟨own_below h.row hb, fun k c hk => own_below (h.own k c hk) hb, h.fit, h.apart⟩
theorem CelRow.down (h : CelRow B w v cs y) (hb : B' ≤ B) : CelRow B' w v cs y := ⟨own_down h.row hb, fun k c hk => own_down (h.own k c hk) hb, h.fit, h.apart⟩
theorem CelRow.celsOwn {ca : Option Addr} {n cc : Nat} (h : CelRow B w (.slice ca n cc) cs y) (hl : cs.length ≤ 1000000) : CelsOwn B w ca cs y ∧ n = cs.length ∧ cs.length ≤ cc := by
  rcases h.row.2 with ⟨h1, h2⟩ | ⟨g, cap, cur, h1, hg, hc, hcap, _⟩
  · cases h1
    have hn : cs = [] := List.length_eq_zero_iff.1 h2
    subst hn
    exact ⟨⟨hl, fun k c hk => (by simp at hk), fun b off e => (by cases e), fun k c hk => (by simp at hk), fun k c hk => (by simp at hk), fun k k' b hk => (by simp at hk)⟩, rfl, Nat.le_refl _⟩
  · cases h1
    refine ⟨⟨hl, fun k c hk => ⟨g, 0, rfl, ?_⟩, fun b off e => ?_, h.own, h.fit, h.apart⟩, rfl, hcap⟩
    · obtain ⟨g0, g1, g2⟩ := cwL_get (y := y) hk
      rw [Nat.zero_add]
      exact ⟨own_get h.row g0, own_get h.row g1, own_get h.row g2⟩
    · cases e; exact .inr ⟨cur, hc⟩
/-- two lists of cells -/
def y2of (n : Nat) (y y2 : Nat → Value) (k : Nat) : Value := if k < n then y k else y2 (k - n)
theorem cel_app {k : Nat} {c : Cel} (h : (cs ++ cs2)[k]? = some c) : (k < cs.length ∧ cs[k]? = some c) ∨ (cs.length ≤ k ∧ cs2[k - cs.length]? = some c) := by
  by_cases hl : k < cs.length
  · rw [List.getElem?_append_left hl] at h; exact .inl ⟨hl, h⟩
  · rw [List.getElem?_append_right (by omega)] at h; exact .inr ⟨by omega, h⟩
theorem cwL_app (cs cs2 : List Cel) (y y2 : Nat → Value) : cwL (cs ++ cs2) (y2of cs.length y y2) = cwL cs y ++ cwL cs2 y2 := by
  refine List.ext_getElem? fun j => ?_
  have key : ∀ (l : List Cel) (f : Nat → Value) (j : Nat), j < l.length * 3 → (cwL l f)[j]? = some (cwF l f j) := fun l f j hj => by
    unfold cwL; rw [List.getElem?_map, List.getElem?_range hj]; rfl
  by_cases h1 : j < cs.length * 3
  · rw [key _ _ _ (by rw [List.length_append]; omega), List.getElem?_append_left (by rw [cwL_len]; exact h1), key _ _ _ h1]
    unfold cwF y2of
    rw [List.getElem?_append_left (show j / 3 < cs.length by omega), if_pos (show j / 3 < cs.length by omega)]
  · by_cases h2 : j < (cs.length + cs2.length) * 3
    · rw [key _ _ _ (by rw [List.length_append]; exact h2), List.getElem?_append_right (by rw [cwL_len]; omega), cwL_len, key _ _ _ (by omega)]
      unfold cwF y2of
      rw [List.getElem?_append_right (show cs.length ≤ j / 3 by omega), if_neg (show ¬ j / 3 < cs.length by omega), show (j - cs.length * 3) % 3 = j % 3 by omega, show (j - cs.length * 3) / 3 = j / 3 - cs.length by omega]
    · rw [List.getElem?_eq_none (by rw [cwL_len, List.length_append]; omega), List.getElem?_eq_none (by rw [List.length_append, cwL_len, cwL_len]; omega)]
theorem cwL_one (c : Cel) (v : Value) : cwL [c] (fun _ => v) = [.string c.name, .bool c.arr, v] := by
  simp [cwL, cwF, show List.range 3 = [0, 1, 2] from rfl]
/-- a row grows by other cells: hg: what the append turned -/
theorem CelRow.app {V w2 : World} {N1 : Nat} (h : CelRow B V v cs y) (h2 : CelRow N1 V v' cs2 y2) (hlt : ∀ k, k < cs.length → ∀ b, (y k).ownBlock = some b → b < N1) (hB : B ≤ N1) (hg : V.grownBy w2 v.ownBlock)
    (ho : w2.ownsRow B 54 3 v2 (cs.length + cs2.length) (cwL cs y ++ cwL cs2 y2)) : CelRow B w2 v2 (cs ++ cs2) (y2of cs.length y y2) := by
  have hm : ∀ (k : Nat) arr t, V.heap[k]? = some (.cells arr t) → t ≠ 54 → w2.heap[k]? = some (.cells arr t) := fun k arr t hk ht => grown_other h.row hg k arr t hk ht
  refine ⟨by rw [List.length_append, cwL_app]; exact ho, fun k c hk => ?_, fun k c hk => ?_, fun k k' b hk hk' e e' => ?_⟩
  · unfold y2of
    rcases cel_app hk with ⟨hl, hk⟩ | ⟨hl, hk⟩
    · rw [if_pos hl]; exact own_move (h.own k c hk) (by decide) hm
    · rw [if_neg (by omega)]; exact own_down (own_move (h2.own _ c hk) (by decide) hm) hB
  · rcases cel_app hk with ⟨hl, hk⟩ | ⟨hl, hk⟩
    · exact h.fit k c hk
    · exact h2.fit _ c hk
  · rw [List.length_append] at hk hk'
    have hnew : ∀ {k b : Nat}, k < cs2.length → (y2 k).ownBlock = some b → N1 ≤ b := fun {k b} hk hb => (own_lt (h2.own k _ (List.getElem?_eq_getElem hk)) hb).1
    unfold y2of at e e'
    by_cases hl : k < cs.length
    · rw [if_pos hl] at e
      by_cases hl' : k' < cs.length
      · rw [if_pos hl'] at e'; exact h.apart k k' b hl hl' e e'
      · rw [if_neg hl'] at e'
        have h3 := hlt k hl b e
        have h4 := hnew (by omega) e'
        omega
    · rw [if_neg hl] at e
      by_cases hl' : k' < cs.length
      · rw [if_pos hl'] at e'
        have h3 := hlt k' hl' b e'
        have h4 := hnew (by omega) e
        omega
      · rw [if_neg hl'] at e'
        have := h2.apart _ _ b (by omega) (by omega) e e'
        omega
/-- a row of one cell -/
theorem CelRow.one {g1 : Nat} {nm : ByteArray} {ar : Bool} {l : List Int} {u : Value} (hX : w.heap[g1]? = some (.cells #[.string nm, .bool ar, u] 54)) (hg : B ≤ g1) (hu : w.ownsRow B 21 1 u l.length (i32s l)) (hl : l.length ≤ 1000000) (hw : ∀ x ∈ l, Wd.W x) (hn : nm.size ≤ 9223372036854775807) (h1 : ar = false → l.length = 1) :
    CelRow B w (.slice (some ⟨g1, 0, none⟩) 1 1) [⟨nm, ar, l⟩] (fun _ => u) := by
  have hc : ∀ (k : Nat) (c : Cel), [(⟨nm, ar, l⟩ : Cel)][k]? = some c → c = ⟨nm, ar, l⟩ := fun k c hk => by
    have := (List.getElem?_eq_some_iff.1 hk).1
    have : k = 0 := by simp at this; omega
    subst this
    exact (Option.some.inj hk).symm
  refine ⟨⟨rfl, .inr ⟨g1, 1, _, rfl, hg, hX, Nat.le_refl _, by decide, rfl, by rw [cwL_one]; rfl⟩⟩, fun k c hk => ?_, fun k c hk => ?_, fun k k' b hk hk' _ _ => ?_⟩
  · rw [hc k c hk]; exact hu
  · rw [hc k c hk]; exact ⟨hl, hw, hn, h1⟩
  · simp at hk hk'; omega
end
end Go.Proofs.YtgochgcchkdlmaaDoor

/-
  Contract: Arrays (package ontimeref16): cells with copies of the elements.
-/
namespace Go.Proofs.YtgochgcchkdlmaaDoor
set_option linter.unusedVariables false
set_option linter.unusedSimpArgs false
open Go.RowKit Go.Maps
set_option maxRecDepth 100000
set_option maxHeartbeats 80000000

/-- the cells of arrays -/
def arrC (D : List Arr) (L : List (List Int)) : List Cel := (D.zip L).map fun x => ⟨x.1.name, true, x.2⟩
theorem arrC_len {D : List Arr} {L : List (List Int)} (h : D.length = L.length) : (arrC D L).length = D.length := by unfold arrC; simp; omega
theorem arrC_next {D : List Arr} {L : List (List Int)} {j : Nat} {r : List Int} (hj : j < D.length) (hr : L[j]? = some r) : arrC (D.take (j + 1)) (L.take (j + 1)) = arrC (D.take j) (L.take j) ++ [⟨(D.getD j Arr.none).name, true, r⟩] := by
  have hl := (List.getElem?_eq_some_iff.1 hr).1
  have h1 : D.take (j + 1) = D.take j ++ [D.getD j Arr.none] := by
    rw [List.take_add_one, List.getD_eq_getElem?_getD, List.getElem?_eq_getElem hj]; rfl
  have h2 : L.take (j + 1) = L.take j ++ [r] := by rw [List.take_add_one, hr]; rfl
  rw [h1, h2]
  unfold arrC
  rw [List.zip_append (by simp; omega), List.map_append]
  rfl
theorem arrays16_any (D : List Arr) (L : List (List Int)) (w : World) (aa ma : Option Addr) (ac mc : Nat) (hD : ArrsAt w aa D) (hL : ContAt w ma L) (hlen : D.length = L.length) (hsm : D.length ≤ 1000) (hr : ∀ r ∈ L, r.length ≤ 1000) :
    Calls Tryd.prog 40 #[.slice aa D.length ac, .slice ma L.length mc] w fun e w' => ∃ v y, e = .returned v ∧ CelRow w.heap.size w' v (arrC D L) y ∧ Below w.heap.size w w' := by
  obtain ⟨i0, hi0, hz00, hz01, hz02⟩ := info_parts i32_info
  obtain ⟨q0, hq, qz0, qz1, qz2⟩ := info_parts cel_info
  have HD := Lib.hid hD
  have HL := Lib.hid hL
  have HR := Lib.hid hr
  have HLEN := Lib.hid hlen
  have hll : L.length ≤ 1000 := by omega
  obtain ⟨W1, hW1⟩ : ∃ W : World, w.alloc (.cells #[] 54) = W := ⟨_, rfl⟩
  have HB1 : Hid (Below w.heap.size w W1) := by show Below _ _ _; rw [← hW1]; exact mem_alloc _ _
  have HRO : Hid (CelRow w.heap.size W1 (.slice (some ⟨w.heap.size, 0, none⟩) 0 0) [] (fun _ => undef)) := by
    refine ⟨?_, fun k c h => by simp at h, fun k c h => by simp at h, fun k k' b h => by simp at h⟩
    rw [← hW1]
    exact World.ownsRow_made _ #[] 0 (Nat.le_refl _) (by unfold maxLen; omega) rfl
  clear hD hL hr hlen
  go_enter Tryd.func40, Tryd.ntmps40
  go_wp2_with fail
  try rw [hW1]
  clear hW1
  go_loopw [5, 6] (fun ov iv wr => ∃ (j : Nat) (va : Option Addr) (vc : Nat) (y : Nat → Value), j ≤ D.length ∧ ov = .slice va j vc ∧ iv = .int .i64 (j : Int) ∧ CelRow w.heap.size wr (.slice va j vc) (arrC (D.take j) (L.take j)) y ∧ Below w.heap.size w wr) (fun _ iv _ => D.length - (intOf iv).toNat)
  case atStart => exact ⟨0, _, _, _, Nat.zero_le _, rfl, rfl, HRO.out, HB1.out⟩
  case round =>
    obtain ⟨j, va, vc, y, hj, rfl, rfl, hro, hB⟩ := hrel
    have hj0 : (0 : Int) ≤ (j : Int) := by omega
    obtain ⟨cs, hcs⟩ : ∃ cs, arrC (D.take j) (L.take j) = cs := ⟨_, rfl⟩
    have HCL : Hid (cs.length = j) := by show _ = _; rw [← hcs, arrC_len (by have := HLEN.out; simp; omega), List.length_take]; omega
    have HRJ : Hid (CelRow w.heap.size wr (.slice va j vc) cs y) := by show CelRow _ _ _ _ _; rw [← hcs]; exact hro
    have HB := Lib.hid hB
    clear hro hB
    by_cases hlt : j < D.length
    · have hlt2 : (j : Int) < (D.length : Int) := by omega
      have hltL : j < L.length := by have := HLEN.out; omega
      have hlt3 : (j : Int) < (L.length : Int) := by omega
      obtain ⟨r, hrr⟩ : ∃ r, L[j]? = some r := ⟨_, List.getElem?_eq_getElem hltL⟩
      have hrl := HR.out r (List.mem_of_getElem? hrr)
      have HRL := Lib.hid hrl
      obtain ⟨ab, ao, rfl, ha0, ha1, ha2, _⟩ := HD.out.2 j hlt
      obtain ⟨mb, mo, rfl, ra, rc, hcell, _, hw⟩ := HL.out.row hrr
      obtain ⟨nm, hnm⟩ : ∃ nm, (D.getD j Arr.none).name = nm := ⟨_, rfl⟩
      rw [hnm] at ha0 ha2
      have HA0 : Hid (∀ w', Below w.heap.size w w' → w'.cell? ⟨ab, ao + j * 2, none⟩ = some (.string nm)) := fun w' h => cell_below h ha0
      have HM0 : Hid (∀ w', Below w.heap.size w w' → w'.cell? ⟨mb, mo + j, none⟩ = some (.slice ra r.length rc)) := fun w' h => cell_below h hcell
      have HWR := Lib.hid hw
      have HNX : Hid (arrC (D.take (j + 1)) (L.take (j + 1)) = cs ++ [⟨nm, true, r⟩]) := by show _ = _; rw [arrC_next hlt hrr, hcs, hnm]
      have HNM := Lib.hid ha2
      have hDf : D.length ≤ 9223372036854775807 := by omega
      have hLf : L.length ≤ 9223372036854775807 := by omega
      clear hrr ha0 ha1 ha2 hcell hw hcs hnm hrl
      go_upto_region 5 with fail
      have hD0 : Below wr.heap.size wr (World.drew wr) := (Below.refl _ _).drew
      refine wp_region_held_drew (S := fun w' => Below w.heap.size w w') (by kernel_rfl) (mem_then HB.out hD0) (fun hHeld => ?_)
      generalize hwd : World.drew wr = v1 at hHeld hD0 ⊢
      clear hwd
      have HD0 := Lib.hid hD0
      clear hD0
      refine hT 0 (.slice va j vc) rfl (hy := ?_) (h := ?_)
      · intro w' hSw; go_simp
      (try simp only [Act.put, pA, pB, pD, pE, pF])
      refine hT 1 (.slice (some ⟨ab, ao, none⟩) D.length ac) rfl (hy := ?_) (h := ?_)
      · intro w' hSw; go_simp
      (try simp only [Act.put, pA, pB, pC, pD, pE, pF])
      refine hT 2 (.int .i64 (j : Int)) rfl (hy := ?_) (h := ?_)
      · intro w' hSw; go_simp
      (try simp only [Act.put, pA, pB, pC, pD, pE, pF])
      refine hT 3 (.pointer (some ⟨ab, ao + j * 2, none⟩)) rfl (hy := ?_) (h := ?_)
      · intro w' hSw; go_simp
      (try simp only [Act.put, pA, pB, pC, pD, pE, pF])
      refine hT 4 (.pointer (some ⟨ab, ao + j * 2, none⟩)) rfl (hy := ?_) (h := ?_)
      · intro w' hSw; go_simp
      (try simp only [Act.put, pA, pB, pC, pD, pE, pF])
      refine hT 5 (.string nm) rfl (hy := ?_) (h := ?_)
      · intro w' hSw; have z0 := HA0.out _ hSw; go_simp
      (try simp only [Act.put, pA, pB, pC, pD, pE, pF])
      refine hT 7 (.slice (some ⟨mb, mo, none⟩) L.length mc) rfl (hy := ?_) (h := ?_)
      · intro w' hSw; go_simp
      (try simp only [Act.put, pA, pB, pC, pD, pE, pF])
      refine hT 8 (.int .i64 (j : Int)) rfl (hy := ?_) (h := ?_)
      · intro w' hSw; go_simp
      (try simp only [Act.put, pA, pB, pC, pD, pE, pF])
      refine hT 9 (.pointer (some ⟨mb, mo + j, none⟩)) rfl (hy := ?_) (h := ?_)
      · intro w' hSw; go_simp
      (try simp only [Act.put, pA, pB, pC, pD, pE, pF])
      refine hT 10 (.slice ra r.length rc) rfl (hy := ?_) (h := ?_)
      · intro w' hSw; have z0 := HM0.out _ hSw; go_simp
      (try simp only [Act.put, pA, pB, pC, pD, pE, pF])
      refine rdH 6 rfl (fun K hK => ?_)
      go_simp
      obtain ⟨v2, hv2⟩ : ∃ V : World, v1.alloc (.cells #[] 21) = V := ⟨_, rfl⟩
      rw [hv2]
      have hB2 : Below v1.heap.size v1 v2 := by rw [← hv2]; exact mem_alloc _ _
      have HMADE : Hid (v2.ownsRow wr.heap.size 21 1 (.slice (some ⟨v1.heap.size, 0, none⟩) 0 0) 0 []) := by
        show World.ownsRow _ _ _ _ _ _ _
        rw [← hv2]
        exact World.ownsRow_made _ #[] 0 HD0.out.size (by unfold maxLen; omega) rfl
      have HB2 := Lib.hid (mem_then HD0.out hB2)
      have HSR := Lib.hid ((HWR.out.below (mem_then HB.out HB2.out)).src)
      clear hv2 hB2
      refine hK.out _ _ (mem_then HB.out HB2.out) (fun hHeld => ?_)
      clear hK K
      rename_i hOld
      clear hOld
      (try simp only [Act.put, pA, pB, pC, pD, pE, pF])
      refine rdH 11 rfl (fun K hK => ?_)
      refine step_append_src _ rfl (.tmp 20) (.tmp 24) 30 rfl wr.heap.size 21 i0 _ 1 4 Tryd.underlying30 hi0 hz00 hz01 hz02 rfl (by decide) (.slice (some ⟨v1.heap.size, 0, none⟩) 0 0) 0 [] (by simp [Act.eval]) HMADE.out ra r.length rc (i32s r) (by simp [Act.eval]) HSR.out (i32s_one r) (by have := HRL.out; unfold maxLen; omega) (by have := HRL.out; omega) HB2.out.size ?_
      intro u3 w3 hown3 hgrow3 _
      have hB3 : Below wr.heap.size wr w3 := HB2.out.grown hgrow3 HB2.out.size (fun b hb => (own_lt HMADE.out hb).1)
      have hown3 : w3.ownsRow wr.heap.size 21 1 u3 r.length (i32s r) := by simpa using hown3
      obtain ⟨ua, uc, rfl⟩ := own_val hown3
      have HU := Lib.hid hown3
      have HB3' := Lib.hid hB3
      clear hown3 hgrow3 hB3 HMADE HSR
      refine hK.out _ _ (mem_then HB.out HB3'.out) (fun hHeld => ?_)
      clear hK K
      rename_i hOld
      clear hOld
      (try simp only [Act.put, pA, pB, pC, pD, pE, pF])
      refine hT 12 (.agg #[.string nm, .bool true, .slice ua r.length uc]) rfl (hy := ?_) (h := ?_)
      · intro w' hSw; go_simp
      (try simp only [Act.put, pA, pB, pC, pD, pE, pF])
      refine rdH 13 rfl (fun K hK => ?_)
      go_simp
      obtain ⟨v4, hv4⟩ : ∃ V : World, w3.alloc (.cells #[.string nm, .bool true, .slice ua r.length uc] 54) = V := ⟨_, rfl⟩
      rw [hv4]
      have hB4 : Below w3.heap.size w3 v4 := by rw [← hv4]; exact mem_alloc _ _
      have HX4 : Hid (v4.heap[w3.heap.size]? = some (.cells #[.string nm, .bool true, .slice ua r.length uc] 54)) := by show _ = _; rw [← hv4]; exact mem_new _ _
      have HB4 := Lib.hid (mem_then HB3'.out hB4)
      have HONE : Hid (CelRow wr.heap.size v4 (.slice (some ⟨w3.heap.size, 0, none⟩) 1 1) [⟨nm, true, r⟩] (fun _ => .slice ua r.length uc)) := CelRow.one HX4.out HB3'.out.size (own_below HU.out hB4) (by have := HRL.out; omega) HWR.out.words HNM.out (fun h => by cases h)
      have HRV := Lib.hid (HRJ.out.keep HB4.out)
      have HRW : Hid (v4.ownsRow w.heap.size 54 3 (.slice va j vc) j (cwL cs y)) := by have h := HRV.out.row; rw [HCL.out] at h; exact h
      clear hv4 hB4
      refine hK.out _ _ (mem_then HB.out HB4.out) (fun hHeld => ?_)
      clear hK K
      rename_i hOld
      clear hOld
      (try simp only [Act.put, pA, pB, pC, pD, pE, pF])
      refine rdH 14 rfl (fun K hK => ?_)
      refine step_append_src _ rfl (.tmp 14) (.tmp 27) 43 rfl w.heap.size 54 q0 _ 3 48 Tryd.underlying43 hq qz0 qz1 qz2 rfl (by decide) (.slice va j vc) j (cwL cs y) (by simp [Act.eval]) HRW.out (some ⟨w3.heap.size, 0, none⟩) 1 1 [.string nm, .bool true, .slice ua r.length uc] (by simp [Act.eval]) (src_new HX4.out rfl) (by simp [Value.oneCell']) (by unfold maxLen; omega) (by omega) (Nat.le_trans HB.out.size HB4.out.size) ?_
      intro r9 w9 hown hgrow _
      obtain ⟨ra9, rc9, rfl⟩ := own_val hown
      have HB9 : Hid (Below w.heap.size w w9) := (mem_then HB.out HB4.out).grown hgrow (mem_then HB.out HB4.out).size (fun b hb => (own_lt HRW.out hb).1)
      have HR9 : Hid (∃ y', CelRow w.heap.size w9 (.slice ra9 (j + 1) rc9) (arrC (D.take (j + 1)) (L.take (j + 1))) y') := by
        refine ⟨y2of cs.length y (fun _ => .slice ua r.length uc), ?_⟩
        rw [HNX.out]
        refine HRV.out.app HONE.out (fun k hk b hb => (own_lt (HRJ.out.own k _ (List.getElem?_eq_getElem hk)) hb).2) HB.out.size hgrow ?_
        rw [cwL_one, HCL.out]
        exact hown
      clear hown hgrow
      refine hK.out _ _ (HB9.out) (fun hHeld => ?_)
      clear hK K
      rename_i hOld
      clear hOld
      (try simp only [Act.put, pA, pB, pC, pD, pE, pF])
      refine hT 15 (.slice ra9 (j + 1) rc9) rfl (hy := ?_) (h := ?_)
      · intro w' hSw; go_simp
      (try simp only [Act.put, pA, pB, pC, pD, pE, pF])
      clear hHeld
      refine wpAnyH_done (by kernel_rfl) ?_ _
      obtain ⟨y9, hr9⟩ := HR9.out
      have HR9' := Lib.hid hr9
      clear hr9
      go_wp2_with fail
      go_roundw
      case rel => exact ⟨j + 1, ra9, rc9, y9, by omega, rfl, by go_num, HR9'.out, HB9.out⟩
      case measure => simp [intOf]; omega
    · obtain rfl : j = D.length := by omega
      have HO : Hid (CelRow w.heap.size wr (.slice va D.length vc) (arrC D L) y) := by
        have h1 := HRJ.out
        show CelRow _ _ _ _ _
        rw [← hcs, List.take_length, HLEN.out, List.take_length] at h1
        rw [HLEN.out]
        exact h1
      clear hcs
      go_wp2_with fail
      go_ret
      first | exact ⟨_, rfl, y, HO.out, HB.out⟩ | exact ⟨_, rfl, ⟨y, HO.out⟩, HB.out⟩ | exact ⟨_, y, rfl, HO.out, HB.out⟩
end Go.Proofs.YtgochgcchkdlmaaDoor

/-
  The cells a job of the reference begins with (package ontimeref16), plainly; rows as sources.
-/
namespace Go.Proofs.YtgochgcchkdlmaaDoor
set_option linter.unusedVariables false
set_option linter.unusedSimpArgs false
open Go.RowKit Go.Maps

/-- the cells of variables -/
def varC (l : List ByteArray) : List Cel := l.map fun v => ⟨v, false, [0]⟩
theorem varC_next {l : List ByteArray} {j : Nat} {v : ByteArray} (h : l[j]? = some v) : varC (l.take (j + 1)) = varC (l.take j) ++ [⟨v, false, [0]⟩] := by
  unfold varC
  rw [List.take_add_one, h, List.map_append]; rfl
/-- the cells of a job -/
def jobC (p : Prg) (i : Nat) (L S : List (List Int)) : List Cel := arrC (p.tasks.getD i Tsk.none).arrays L ++ arrC p.shared S ++ varC (p.tasks.getD i Tsk.none).vars
def st0 (cs : List Cel) : St := ⟨celV cs, celA cs, [], 0, 0⟩
theorem celL_append {α : Type} (f : Cel → Option (ByteArray × α)) (a b : List Cel) : celL f (a ++ b) = fP (a.filterMap f ++ b.filterMap f) := by
  unfold celL; rw [List.filterMap_append]
theorem arrC_V (D : List Arr) (L : List (List Int)) : (arrC D L).filterMap fV = [] := by
  rw [List.filterMap_eq_nil_iff]
  intro c hc
  obtain ⟨x, _, rfl⟩ := List.mem_map.1 hc
  rfl
theorem arrC_A (D : List Arr) (L : List (List Int)) : (arrC D L).filterMap fA = named D L := by
  unfold arrC named
  rw [List.filterMap_map, List.zip_map_left]
  have e : (fA ∘ fun x : Arr × List Int => (⟨x.1.name, true, x.2⟩ : Cel)) = fun x => some (Prod.map (·.name) id x) := by funext x; rfl
  rw [e, List.filterMap_eq_map']
theorem varC_V (l : List ByteArray) : (varC l).filterMap fV = l.map fun v => (v, (0 : Int)) := by
  unfold varC
  rw [List.filterMap_map]
  have e : (fV ∘ fun v : ByteArray => (⟨v, false, [0]⟩ : Cel)) = fun v => some (v, (0 : Int)) := by funext x; rfl
  rw [e, List.filterMap_eq_map']
theorem varC_A (l : List ByteArray) : (varC l).filterMap fA = [] := by
  rw [List.filterMap_eq_nil_iff]
  intro c hc
  obtain ⟨x, _, rfl⟩ := List.mem_map.1 hc
  rfl
theorem fP_comm {α : Type} {a b : List (ByteArray × α)} (hn : ((a ++ b).map (·.1)).Nodup) : fP (a ++ b) = fP (b ++ a) := by
  have hp : ((b ++ a).map (·.1)).Nodup := by
    rw [List.map_append] at hn ⊢
    rw [List.nodup_append] at hn ⊢
    exact ⟨hn.2.1, hn.1, fun x hx y hy e => hn.2.2 y hy x hx e.symm⟩
  funext nm
  cases h : fP (a ++ b) nm with
  | some v =>
    obtain ⟨k, hk⟩ := fP_mem h
    have hm : (nm, v) ∈ b ++ a := by
      have := List.mem_of_getElem? hk
      rw [List.mem_append] at this ⊢
      exact this.symm
    obtain ⟨j, hj⟩ := List.getElem?_of_mem hm
    rw [fP_nodup hp hj]
  | none =>
    cases h' : fP (b ++ a) nm with
    | none => rfl
    | some v =>
      obtain ⟨k, hk⟩ := fP_mem h'
      have hm : (nm, v) ∈ a ++ b := by
        have := List.mem_of_getElem? hk
        rw [List.mem_append] at this ⊢
        exact this.symm
      obtain ⟨j, hj⟩ := List.getElem?_of_mem hm
      rw [fP_nodup hn hj] at h
      cases h
theorem jobC_st {p : Prg} {i : Nat} {M : Mem} {L : List (List Int)} (hL : M.arrays.getD i [] = L) (h1 : p.shared.length = M.shared.length) (h2 : (p.tasks.getD i Tsk.none).arrays.length = L.length) (hn : (p.shared.map (·.name) ++ (p.tasks.getD i Tsk.none).arrays.map (·.name)).Nodup) :
    st0 (jobC p i L M.shared) = jobS p i M := by
  unfold st0 jobS
  have e1 : celV (jobC p i L M.shared) = varsV (p.tasks.getD i Tsk.none).vars := by
    unfold celV jobC varsV
    rw [celL_append, List.filterMap_append, arrC_V, arrC_V, varC_V]; rfl
  have e2 : celA (jobC p i L M.shared) = fP (named p.shared M.shared ++ named (p.tasks.getD i Tsk.none).arrays (M.arrays.getD i [])) := by
    unfold celA jobC
    rw [celL_append, List.filterMap_append, arrC_A, arrC_A, varC_A, List.append_nil, hL]
    exact (fP_comm (by rw [List.map_append, named_names h1, named_names h2]; exact hn)).symm
  rw [e1, e2]
theorem jobC_N (p : Prg) (i : Nat) (L S : List (List Int)) (h1 : p.shared.length = S.length) (h2 : (p.tasks.getD i Tsk.none).arrays.length = L.length) :
    celN (jobC p i L S) = (p.tasks.getD i Tsk.none).arrays.map (fun a => (a.name, true)) ++ p.shared.map (fun a => (a.name, true)) ++ (p.tasks.getD i Tsk.none).vars.map (fun v => (v, false)) := by
  have ha : ∀ (D : List Arr) (L : List (List Int)), D.length = L.length → (arrC D L).map (fun c => (c.name, c.arr)) = D.map (fun a => (a.name, true)) := fun D L h => by
    unfold arrC
    rw [List.map_map]
    show (D.zip L).map (fun x => (x.1.name, true)) = _
    have : (D.zip L).map (fun x => (x.1.name, true)) = ((D.zip L).map (·.1)).map (fun a => (a.name, true)) := by rw [List.map_map]; rfl
    rw [this, List.map_fst_zip (by omega)]
  unfold celN jobC
  rw [List.map_append, List.map_append, ha _ _ h2, ha _ _ h1]
  unfold varC
  rw [List.map_map]; rfl
theorem jobC_dec {p : Prg} {i : Nat} {L S : List (List Int)} (h1 : p.shared.length = S.length) (h2 : (p.tasks.getD i Tsk.none).arrays.length = L.length) :
    NmR ⟨p.shared.map (·.name), (p.tasks.getD i Tsk.none).vars, (p.tasks.getD i Tsk.none).arrays.map (·.name)⟩ [] (celN (jobC p i L S)) := by
  rw [jobC_N p i L S h1 h2]
  refine ⟨fun nm => ?_, fun nm => ?_⟩
  · simp only [List.mem_append, List.mem_map, Prod.mk.injEq, Bool.or_eq_true, memB_iff]
    constructor
    · rintro ((⟨_, _, _, h⟩ | ⟨_, _, _, h⟩) | ⟨v, hv, rfl, _⟩)
      · cases h
      · cases h
      · exact .inl hv
    · rintro (h | h)
      · exact .inr ⟨nm, h, rfl, trivial⟩
      · cases h
  · simp only [List.mem_append, List.mem_map, Prod.mk.injEq, Bool.or_eq_true, memB_iff]
    constructor
    · rintro ((⟨a, ha, rfl, _⟩ | ⟨a, ha, rfl, _⟩) | ⟨_, _, _, h⟩)
      · exact .inl ⟨a, ha, rfl⟩
      · exact .inr ⟨a, ha, rfl⟩
      · cases h
    · rintro (⟨a, ha, rfl⟩ | ⟨a, ha, rfl⟩)
      · exact .inl (.inl ⟨a, ha, rfl, trivial⟩)
      · exact .inl (.inr ⟨a, ha, rfl, trivial⟩)
/-- a negative fuel is none -/
theorem stp_neg {F : Int} (h : F ≤ 0) (s : St) : stp F s = (s, 13) := stp_ge (by omega)
theorem seqTo_same {f g : Nat → St → SR} : ∀ (n : Nat), (∀ i, i < n → ∀ s, f i s = g i s) → ∀ s, seqTo f n s = seqTo g n s
  | 0, _, _ => rfl
  | n + 1, h, s => by
    show (seqTo f n s).then (f n) = (seqTo g n s).then (g n)
    rw [seqTo_same n (fun i hi => h i (by omega)) s, show f n = g n from funext (h n (by omega))]
theorem ex_neg {F : Int} (h : F ≤ 0) (inp : List Int) : ∀ (t : Tree) (s : St), t.ex F inp s = t.ex 0 inp s := by
  intro t
  induction t using Tree.ind with
  | h t ih =>
    intro s
    rw [Tree.ex_eq, Tree.ex_eq]
    by_cases h47 : t.kind = 47
    · rw [if_pos h47, if_pos h47]
      refine seqTo_same _ (fun i hi s => ?_) s
      unfold kidX
      rw [if_pos hi, if_pos hi]
      exact ih i hi s
    · rw [if_neg h47, if_neg h47, stp_neg h, stp_neg (Int.le_refl 0)]; rfl
section
variable {B : Nat} {w : World} {v : Value} {cs : List Cel} {y : Nat → Value}
theorem CelRow.src {a : Option Addr} {n c : Nat} (h : CelRow B w (.slice a n c) cs y) : Src w a cs.length 3 (cwL cs y) := by
  refine ⟨cwL_len _ _, ?_⟩
  rcases h.row.2 with ⟨_, h0⟩ | ⟨g, cap, cur, h1, _⟩
  · exact .inl h0
  · have hr := h.row
    cases h1
    refine .inr ⟨_, rfl, fun j u hu => ?_⟩
    rw [addr_add, Nat.zero_add]
    exact own_get hr hu
theorem CelRow.ones (h : CelRow B w v cs y) : ∀ u ∈ cwL cs y, u.oneCell' = true := fun u hu => by
  unfold cwL at hu
  obtain ⟨j, hj, rfl⟩ := List.mem_map.1 hu
  have hj : j < cs.length * 3 := by simpa using hj
  unfold cwF
  split
  · rfl
  · split
    · rfl
    · obtain ⟨a, c, e⟩ := own_val (h.own (j / 3) _ (List.getElem?_eq_getElem (show j / 3 < cs.length by omega)))
      rw [e]; rfl
end
end Go.Proofs.YtgochgcchkdlmaaDoor

/-
  Contract: Job (package ontimeref16).
-/
namespace Go.Proofs.YtgochgcchkdlmaaDoor
set_option linter.unusedVariables false
set_option linter.unusedSimpArgs false
open Go.RowKit Go.Maps
set_option maxRecDepth 100000
set_option maxHeartbeats 80000000

/-- the boxes of a job: program, task, result -/
structure JBx (w : World) (b0 b1 b2 : Nat) (p : Prg) (sa : Option Addr) (sc : Nat) (ta : Option Addr) (tc : Nat) (t : Tsk) (q : TskPlace) (w' : World) : Prop where
  x0 : w'.heap[b0]? = some (prgObj p sa sc ta tc)
  x1 : w'.heap[b1]? = some (envObj none 0 0 none 0 0 none 0 0 0 0 0 0)
  x2 : w'.heap[b2]? = some (tskObj t q)
  low : Below w.heap.size w w'
section
variable {w w' w2 : World} {b0 b1 b2 : Nat} {p : Prg} {sa ta : Option Addr} {sc tc : Nat} {t : Tsk} {q : TskPlace}
theorem JBx.keep (h : JBx w b0 b1 b2 p sa sc ta tc t q w') (hb : Below w'.heap.size w' w2) : JBx w b0 b1 b2 p sa sc ta tc t q w2 := ⟨mem_keep h.x0 hb, mem_keep h.x1 hb, mem_keep h.x2 hb, mem_then h.low hb⟩
theorem JBx.grown {e : TypeId} {size n N : Nat} {v : Value} {xs : List Value} (h : JBx w b0 b1 b2 p sa sc ta tc t q w') (ho : w'.ownsRow N 54 3 v n xs) (hN : w.heap.size ≤ N) (hg : w'.grownBy w2 v.ownBlock) : JBx w b0 b1 b2 p sa sc ta tc t q w2 :=
  ⟨grown_other ho hg _ _ _ h.x0 (by decide), grown_other ho hg _ _ _ h.x1 (by decide), grown_other ho hg _ _ _ h.x2 (by decide), h.low.grown hg h.low.size (fun k hk => Nat.le_trans hN (own_lt ho hk).1)⟩
end
theorem tsk_box {w : World} {b : Nat} {t : Tsk} {q : TskPlace} (h : w.heap[b]? = some (tskObj t q)) :
    w.cell? ⟨b, 2, none⟩ = some (.slice q.va t.vars.length q.vc) ∧ w.cell? ⟨b, 3, none⟩ = some (.slice q.aa t.arrays.length q.ac) ∧ w.cell? ⟨b, 4, none⟩ = some (.int .u8 t.body.kind) ∧ w.cell? ⟨b, 5, none⟩ = some (.int .i64 t.body.num) ∧ w.cell? ⟨b, 6, none⟩ = some (.string t.body.name) ∧ w.cell? ⟨b, 7, none⟩ = some (.slice q.ka t.body.len q.kc) :=
  ⟨mem_cell h 2, mem_cell h 3, mem_cell h 4, mem_cell h 5, mem_cell h 6, mem_cell h 7⟩
theorem zero_W {x : Int} (h : x = 0) : Wd.W x := by rw [h]; unfold Wd.W; omega
def JobR (w : World) (F : Int) (inp : List Int) (cs0 : List Cel) (ia : Option Addr) (ic : Nat) (r : SR) (e : Ending) (w' : World) : Prop :=
  ∃ (cs' : List Cel) (y : Nat → Value) (ca' : Option Addr) (cc' : Nat) (oa' : Option Addr) (oc' : Nat), e = .returned (envVal ca' cs'.length cc' ia inp.length ic oa' r.1.out.length oc' (r.1.rd : Int) (r.1.st : Int) F r.2) ∧ celN cs' = celN cs0 ∧ RSt w.heap.size F inp w' r.1 r.2 cs' y ca' ia oa' oc' ∧ Below w.heap.size w w'
theorem job16_any (p : Prg) (i : Nat) (t : Tsk) (L S : List (List Int)) (inp : List Int) (F F0 : Int) (w : World) (sa ta : Option Addr) (sc tc : Nat) (la sha : Option Addr) (lc shc : Nat) (ia : Option Addr) (ic : Nat)
    (ht : p.tasks.getD i Tsk.none = t) (hp : PrgAt w p sa ta) (hi : i < p.tasks.length) (hL : ContAt w la L) (hS : ContAt w sha S) (hin : WordsAt w ia inp) (hlL : t.arrays.length = L.length) (hlS : p.shared.length = S.length) (hbA : t.arrays.length ≤ 1000) (hbS : p.shared.length ≤ 1000) (hbV : t.vars.length ≤ 1000)
    (hrL : ∀ r ∈ L, r.length ≤ 1000) (hrS : ∀ r ∈ S, r.length ≤ 1000) (hil : inp.length ≤ 1000000) (hF : F ≤ 1000000) (hF0 : F0 = if F < 0 then 0 else F) (hv : t.body.vld 98 = true) (hdec : Dec (celN (jobC p i L S)) t.body) (hsz : t.body.size ≤ 900000) :
    Calls Tryd.prog 19 #[p.val sa sc ta tc, .int .i64 (i : Int), .slice la L.length lc, .slice sha S.length shc, .slice ia inp.length ic, .int .i64 F] w (JobR w F0 inp (jobC p i L S) ia ic (t.body.ex F0 inp (st0 (jobC p i L S)))) := by
  obtain ⟨i0, hi0, hz00, hz01, hz02⟩ := info_parts i32_info
  obtain ⟨q0, hq, qz0, qz1, qz2⟩ := info_parts cel_info
  have hi2 : (i : Int) < (p.tasks.length : Int) := by omega
  have hi00 : (0 : Int) ≤ (i : Int) := by omega
  have htl := hp.2.1
  have HSA := Lib.hid hp.1
  obtain ⟨tb, tf, q, rfl, hc, hin3⟩ := hp.2.2 i hi
  rw [ht] at hc hin3
  have HIN := Lib.hid hin3
  have HC := Lib.hid hc
  obtain ⟨W1, hW1⟩ : ∃ W : World, w.alloc (prgObj p sa sc (some ⟨tb, tf, none⟩) tc) = W := ⟨_, rfl⟩
  obtain ⟨W2, hW2⟩ : ∃ W : World, W1.alloc (envObj none 0 0 none 0 0 none 0 0 0 0 0 0) = W := ⟨_, rfl⟩
  obtain ⟨W3, hW3⟩ : ∃ W : World, W2.alloc (tskObj t q) = W := ⟨_, rfl⟩
  have b1 : Below w.heap.size w W1 := by rw [← hW1]; exact mem_alloc _ _
  have b2 : Below W1.heap.size W1 W2 := by rw [← hW2]; exact mem_alloc _ _
  have b3 : Below W2.heap.size W2 W3 := by rw [← hW3]; exact mem_alloc _ _
  have HJ : Hid (JBx w w.heap.size W1.heap.size W2.heap.size p sa sc (some ⟨tb, tf, none⟩) tc t q W3) := ⟨mem_keep (by rw [← hW1]; exact mem_new _ _) (mem_then b2 b3), mem_keep (by rw [← hW2]; exact mem_new _ _) b3, by rw [← hW3]; exact mem_new _ _, mem_then b1 (mem_then b2 b3)⟩
  have HLT : Hid (w.heap.size < W1.heap.size ∧ W1.heap.size < W2.heap.size ∧ W2.heap.size < W3.heap.size) := by
    refine ⟨?_, ?_, ?_⟩
    · rw [← hW1]; simp
    · rw [← hW2]; simp
    · rw [← hW3]; simp
  obtain ⟨⟨g0, g1, g2, g3, g4, g5, g6, g7⟩, hbl⟩ := tsk_cells (mem_then b1 b2) hc
  have x1 : W2.cell? ⟨w.heap.size, 1, none⟩ = some (.slice (some ⟨tb, tf, none⟩) p.tasks.length tc) := mem_cell (mem_keep (by rw [← hW1]; exact mem_new _ _) b2) 1
  obtain ⟨cA, hcA⟩ : ∃ c, arrC t.arrays L = c := ⟨_, rfl⟩
  obtain ⟨cS, hcS⟩ : ∃ c, arrC p.shared S = c := ⟨_, rfl⟩
  have hjc : jobC p i L S = cA ++ cS ++ varC t.vars := by unfold jobC; rw [ht, hcA, hcS]
  obtain ⟨cB, hcB⟩ : ∃ c, cA ++ cS = c := ⟨_, rfl⟩
  rw [hcB] at hjc
  rw [hjc]
  rw [hjc] at hdec
  have HCBE := Lib.hid hcB
  have hlA : cA.length = t.arrays.length := by rw [← hcA]; exact arrC_len hlL
  have hlS' : cS.length = p.shared.length := by rw [← hcS]; exact arrC_len hlS
  have HLA := Lib.hid hlA
  have HLS := Lib.hid hlS'
  have HCA : Hid (∀ V, Below w.heap.size w V → Calls Tryd.prog 40 #[.slice q.aa t.arrays.length q.ac, .slice la L.length lc] V fun e w' => ∃ v y, e = .returned v ∧ CelRow V.heap.size w' v cA y ∧ Below V.heap.size V w') := fun V hV => by
    rw [← hcA]; exact arrays16_any t.arrays L V q.aa la q.ac lc (HIN.out.arrays.below hV) (hL.below hV) hlL hbA hrL
  have HCS : Hid (∀ V, Below w.heap.size w V → Calls Tryd.prog 40 #[.slice sa p.shared.length sc, .slice sha S.length shc] V fun e w' => ∃ v y, e = .returned v ∧ CelRow V.heap.size w' v cS y ∧ Below V.heap.size V w') := fun V hV => by
    rw [← hcS]; exact arrays16_any p.shared S V sa sha sc shc (HSA.out.below hV) (hS.below hV) hlS hbS hrS
  have HIA : Hid (I32R w.heap.size w ia inp) := words_low hin
  have HIW : Hid (∀ x ∈ inp, Wd.W x) := hin.words
  have HBODY : Hid (InB w.heap.size w t.body q.ka) := HIN.out.body.toIn
  have HVL : Hid (t.body.vld 98 = true) := hv
  have HDEC := Lib.hid hdec
  have HSZ := Lib.hid hsz
  have HF0 := Lib.hid hF0
  have HFF : Hid (0 ≤ F0 ∧ F0 ≤ 1000000) := by show _ ∧ _; rw [hF0]; split <;> omega
  have HBD : Hid (t.arrays.length ≤ 1000 ∧ p.shared.length ≤ 1000) := ⟨hbA, hbS⟩
  have hvl := hin3.vars.1
  have hkl := hin3.body.fits.len
  clear hcB hp hL hS hin hlL hlS hbA hbS hrL hrS hv hdec hsz hF0 hc hin3 ht hjc hcA hcS hlA hlS' b1 b2 b3
  go_enter Tryd.func19, Tryd.ntmps19
  go_upto_region 2 with fail
  try rw [hW1]
  try rw [hW2]
  try rw [hW3]
  clear hW1 hW2 hW3 g0 g1 g2 g3 g4 g5 g6 g7 x1
  have hD0 : Below W3.heap.size W3 (World.drew W3) := (Below.refl _ _).drew
  refine wp_region_held_drew (S := fun w' => JBx w w.heap.size W1.heap.size W2.heap.size p sa sc (some ⟨tb, tf, none⟩) tc t q w') (by kernel_rfl) (HJ.out.keep hD0) (fun hHeld => ?_)
  generalize hwd : World.drew W3 = V0 at hHeld hD0 ⊢
  clear hwd
  have HJ0 := Lib.hid (HJ.out.keep hD0)
  clear hD0
  refine hT 0 (.pointer (some ⟨W2.heap.size, 3, none⟩)) rfl (hy := ?_) (h := ?_)
  · intro w' hSw; go_simp
  (try simp only [Act.put, pA, pB, pD, pE, pF])
  refine hT 1 (.slice q.aa t.arrays.length q.ac) rfl (hy := ?_) (h := ?_)
  · intro w' hSw; obtain ⟨_, z0, _⟩ := tsk_box hSw.x2; go_simp
  (try simp only [Act.put, pA, pB, pC, pD, pE, pF])
  refine hT 2 (.slice la L.length lc) rfl (hy := ?_) (h := ?_)
  · intro w' hSw; go_simp
  (try simp only [Act.put, pA, pB, pC, pD, pE, pF])
  refine hT 4 (.pointer (some ⟨w.heap.size, 0, none⟩)) rfl (hy := ?_) (h := ?_)
  · intro w' hSw; go_simp
  (try simp only [Act.put, pA, pB, pC, pD, pE, pF])
  refine hT 5 (.slice sa p.shared.length sc) rfl (hy := ?_) (h := ?_)
  · intro w' hSw; obtain ⟨z0, _⟩ := mem_two hSw.x0; go_simp
  (try simp only [Act.put, pA, pB, pC, pD, pE, pF])
  refine hT 6 (.slice sha S.length shc) rfl (hy := ?_) (h := ?_)
  · intro w' hSw; go_simp
  (try simp only [Act.put, pA, pB, pC, pD, pE, pF])
  refine rdH 3 rfl (fun K hK => ?_)
  go_simp
  refine (HCA.out V0 HJ0.out.low).mono ?_
  rintro e E1 ⟨vA, yA, rfl, hrA, hbE⟩
  obtain ⟨aA, ccA, rfl⟩ : ∃ a c, vA = .slice a cA.length c := own_val hrA.row
  have HJ1 := Lib.hid (HJ0.out.keep hbE)
  have HRA := Lib.hid (hrA.down (HJ0.out.low.size))
  clear hrA hbE
  refine hK.out _ _ (HJ1.out) (fun hHeld => ?_)
  clear hK K
  rename_i hOld
  clear hOld
  (try simp only [Act.put, pA, pB, pC, pD, pE, pF])
  refine rdH 7 rfl (fun K hK => ?_)
  go_simp
  refine (HCS.out E1 HJ1.out.low).mono ?_
  rintro e E2 ⟨vS, yS, rfl, hrS, hbE⟩
  obtain ⟨aS, ccS, rfl⟩ : ∃ a c, vS = .slice a cS.length c := own_val hrS.row
  have HJ2 := Lib.hid (HJ1.out.keep hbE)
  have HRA2 := Lib.hid (HRA.out.keep hbE)
  have HRS := Lib.hid hrS
  clear hrS hbE
  refine hK.out _ _ (HJ2.out) (fun hHeld => ?_)
  clear hK K
  rename_i hOld
  clear hOld
  (try simp only [Act.put, pA, pB, pC, pD, pE, pF])
  refine rdH 8 rfl (fun K hK => ?_)
  refine step_append_src _ rfl (.tmp 24) (.tmp 28) 43 rfl w.heap.size 54 q0 _ 3 48 Tryd.underlying43 hq qz0 qz1 qz2 rfl (by decide) (.slice aA cA.length ccA) cA.length (cwL cA yA) (by simp [Act.eval]) HRA2.out.row aS cS.length ccS (cwL cS yS) (by simp [Act.eval]) HRS.out.src HRS.out.ones (by have := HBD.out; have := HLA.out; have := HLS.out; unfold maxLen; omega) (by have := HBD.out; have := HLA.out; have := HLS.out; omega) HJ2.out.low.size ?_
  intro r9 w9 hown hgrow _
  obtain ⟨ra9, rc9, rfl⟩ := own_val hown
  have HJ9 := Lib.hid (HJ2.out.grown (e := 54) (size := 3) HRA2.out.row (Nat.le_refl _) hgrow)
  have HR9 : Hid (CelRow w.heap.size w9 (.slice ra9 (cA.length + cS.length) rc9) (cA ++ cS) (y2of cA.length yA yS)) :=
    HRA2.out.app HRS.out (fun k hk b hb => (own_lt (HRA.out.own k _ (List.getElem?_eq_getElem hk)) hb).2) HJ1.out.low.size hgrow hown
  obtain ⟨m, hm⟩ : ∃ m, cA.length + cS.length = m := ⟨_, rfl⟩
  rw [hm] at HR9 ⊢
  have HM : Hid (m = cA.length + cS.length ∧ m ≤ 2000 ∧ (cA ++ cS).length = m) := by
    have := HBD.out; have := HLA.out; have := HLS.out
    refine ⟨hm.symm, by omega, by rw [List.length_append]; exact hm⟩
  obtain ⟨yB, hyB⟩ : ∃ c, y2of cA.length yA yS = c := ⟨_, rfl⟩
  rw [HCBE.out, hyB] at HR9
  rw [HCBE.out] at HM
  clear hown hgrow hm hyB
  refine hK.out _ _ (HJ9.out) (fun hHeld => ?_)
  clear hK K
  rename_i hOld
  clear hOld
  (try simp only [Act.put, pA, pB, pC, pD, pE, pF])
  refine hT 9 (.slice ra9 m rc9) rfl (hy := ?_) (h := ?_)
  · intro w' hSw; go_simp
  (try simp only [Act.put, pA, pB, pC, pD, pE, pF])
  clear hHeld
  refine wpAnyH_done (by kernel_rfl) ?_ _
  go_wp2_with fail
  go_loopw [14, 15] (fun lv iv wr => ∃ (j : Nat) (va : Option Addr) (vc : Nat) (y : Nat → Value), j ≤ t.vars.length ∧ lv = .slice va (m + j) vc ∧ iv = .int .i64 (j : Int) ∧ CelRow w.heap.size wr (.slice va (m + j) vc) (cB ++ varC (t.vars.take j)) y ∧ JBx w w.heap.size W1.heap.size W2.heap.size p sa sc (some ⟨tb, tf, none⟩) tc t q wr) (fun _ iv _ => t.vars.length - (intOf iv).toNat)
  case atStart => exact ⟨0, ra9, rc9, yB, Nat.zero_le _, rfl, rfl, by rw [List.take_zero]; show CelRow _ _ _ (cB ++ []) _; rw [List.append_nil]; exact HR9.out, HJ9.out⟩
  case round =>
    obtain ⟨j, va, vc, y, hj, rfl, rfl, hro, hjx⟩ := hrel
    have hj0 : (0 : Int) ≤ (j : Int) := by omega
    have HJX := Lib.hid hjx
    have HRO := Lib.hid hro
    have hm2 : m ≤ 2000 := HM.out.2.1
    obtain ⟨cs, hcs⟩ : ∃ c, cB ++ varC (t.vars.take j) = c := ⟨_, rfl⟩
    have HCL : Hid (cs.length = m + j) := by show _ = _; rw [← hcs, List.length_append, HM.out.2.2]; unfold varC; simp; omega
    have HRJ : Hid (CelRow w.heap.size wr (.slice va (m + j) vc) cs y) := by show CelRow _ _ _ _ _; rw [← hcs]; exact hro
    obtain ⟨x2, _, x4, x5, x6, x7⟩ := tsk_box hjx.x2
    clear hro hjx HRO
    by_cases hlt : j < t.vars.length
    · have hlt2 : (j : Int) < (t.vars.length : Int) := by omega
      obtain ⟨vb, vo, hva, hcell, hns⟩ := HIN.out.vars.2 j hlt
      have hcell2 := cell_below HJX.out.low hcell
      obtain ⟨nm, hnm⟩ : ∃ nm, t.vars.getD j ⟨#[]⟩ = nm := ⟨_, rfl⟩
      rw [hnm] at hcell2 hns
      have HNX : Hid (cB ++ varC (t.vars.take (j + 1)) = cs ++ [⟨nm, false, [0]⟩]) := by
        have h1 : t.vars[j]? = some nm := by rw [← hnm, List.getD_eq_getElem?_getD, List.getElem?_eq_getElem hlt]; rfl
        show _ = _; rw [varC_next h1, ← List.append_assoc, hcs]
      have HNS := Lib.hid hns
      obtain ⟨W8, hW8⟩ : ∃ W : World, wr.alloc (.cells #[.int .i32 0] 21) = W := ⟨_, rfl⟩
      obtain ⟨W9, hW9⟩ : ∃ W : World, W8.alloc (.cells #[.string nm, .bool false, .slice (some ⟨wr.heap.size, 0, none⟩) 1 1] 54) = W := ⟨_, rfl⟩
      have hb8 : Below wr.heap.size wr W8 := by rw [← hW8]; exact mem_alloc _ _
      have hb9 : Below W8.heap.size W8 W9 := by rw [← hW9]; exact mem_alloc _ _
      have HX8 : Hid (W9.heap[wr.heap.size]? = some (.cells #[.int .i32 0] 21)) := mem_keep (by rw [← hW8]; exact mem_new _ _) hb9
      have HX9 : Hid (W9.heap[W8.heap.size]? = some (.cells #[.string nm, .bool false, .slice (some ⟨wr.heap.size, 0, none⟩) 1 1] 54)) := by show _ = _; rw [← hW9]; exact mem_new _ _
      have HB9 := Lib.hid (mem_then hb8 hb9)
      have HS8 : Hid (wr.heap.size ≤ W8.heap.size) := hb8.size
      have HONE : Hid (CelRow wr.heap.size W9 (.slice (some ⟨W8.heap.size, 0, none⟩) 1 1) [⟨nm, false, [0]⟩] (fun _ => .slice (some ⟨wr.heap.size, 0, none⟩) 1 1)) :=
        CelRow.one HX9.out HS8.out ⟨rfl, .inr ⟨wr.heap.size, 1, _, rfl, Nat.le_refl _, HX8.out, Nat.le_refl _, by decide, rfl, rfl⟩⟩ (by simp) (fun x hx => zero_W (by simpa using hx)) HNS.out (fun _ => rfl)
      have HRV := Lib.hid (HRJ.out.keep HB9.out)
      have HRW : Hid (W9.ownsRow w.heap.size 54 3 (.slice va (m + j) vc) (m + j) (cwL cs y)) := by have h := HRV.out.row; rw [HCL.out] at h; exact h
      have HJ8 := Lib.hid (HJX.out.keep HB9.out)
      have hvl2 : t.vars.length ≤ 9223372036854775807 := hvl
      rw [hva] at x2
      clear hcell hb8 hb9 hcs hnm hns x4 x5 x6 x7 hva
      go_wp2_with (at_builtin; refine wpList_append_src _ rfl (.tmp 37) (.tmp 45) 43 rfl w.heap.size 54 q0 _ 3 48 Tryd.underlying43 hq qz0 qz1 qz2 rfl (by decide) (.slice va (m + j) vc) (m + j) (cwL cs y) rfl HRW.out (some ⟨W8.heap.size, 0, none⟩) 1 1 [.string nm, .bool false, .slice (some ⟨wr.heap.size, 0, none⟩) 1 1] rfl (src_new HX9.out rfl) (by simp [Value.oneCell']) (by unfold maxLen; omega) (by omega) HJ8.out.low.size ?_)
      intro r9 w9 hown hgrow _
      obtain ⟨rb9, rd9, rfl⟩ := own_val hown
      have HJ10 := Lib.hid (HJ8.out.grown (e := 54) (size := 3) HRW.out (Nat.le_refl _) hgrow)
      have HR10 : Hid (CelRow w.heap.size w9 (.slice rb9 (m + (j + 1)) rd9) (cB ++ varC (t.vars.take (j + 1))) (y2of cs.length y (fun _ => .slice (some ⟨wr.heap.size, 0, none⟩) 1 1))) := by
        show CelRow _ _ _ _ _
        rw [HNX.out]
        refine HRV.out.app HONE.out (fun k hk b hb => (own_lt (HRJ.out.own k _ (List.getElem?_eq_getElem hk)) hb).2) HJX.out.low.size hgrow ?_
        rw [cwL_one, HCL.out]
        exact hown
      clear hown hgrow hW8 hW9 x2 hcell2
      go_wp2_with fail
      go_roundw
      case rel => exact ⟨j + 1, rb9, rd9, _, by omega, rfl, by go_num, HR10.out, HJ10.out⟩
      case measure => simp [intOf]; omega
    · obtain rfl : j = t.vars.length := by omega
      have HCJ : Hid (cB ++ varC t.vars = cs) := by show _ = _; rw [← hcs, List.take_length]
      rw [HCJ.out] at HDEC
      have hcl : cs.length ≤ 1000000 := by rw [HCL.out]; omega
      have hco := HRJ.out.celsOwn hcl
      have HCO := Lib.hid hco.1
      have HCC : Hid (cs.length ≤ vc) := hco.2.2
      have HRST : Hid (RSt w.heap.size F0 inp wr (st0 cs) 0 cs y va ia none 0) :=
        ⟨HCO.out, fun _ => rfl, rfl, World.ownsRow_nil _ _ _ _, HIA.out.low HJX.out.low, hil, HIW.out, by show 0 ≤ F0.toNat; omega, by exact ⟨Nat.le_refl _, Nat.le_refl _⟩⟩
      obtain ⟨⟨s9, er9⟩, hr9⟩ : ∃ r, t.body.ex F0 inp (st0 cs) = r := ⟨_, rfl⟩
      have hb := (exec16_all w.heap.size F0 inp ia ic (by have := HFF.out; omega) t.body (celN cs) y HDEC.out (by have := HSZ.out; unfold celN; rw [List.length_map, HCL.out]; omega)).2 HVL.out wr (st0 cs) cs va vc none 0 q.ka q.kc rfl HCC.out HJX.out.low.size (HBODY.out.low HJX.out.low) HRST.out
      rw [hr9] at hb
      have HRE := Lib.hid hr9
      have HCB : Hid (Calls Tryd.prog 41 #[t.body.val q.ka q.kc, .agg #[.slice va (m + t.vars.length) vc, .slice ia inp.length ic, .slice none 0 0, .int .i64 0, .int .i64 0, .int .i64 F0, .int .i64 0]] wr (RQ w.heap.size F0 inp cs y ia ic wr (s9, er9))) := by
        have h := hb
        have e : cs.length = m + t.vars.length := HCL.out
        unfold envVal at h
        rw [e] at h
        exact h
      have hlt2 : ¬ (t.vars.length : Int) < (t.vars.length : Int) := by omega
      clear hcs hb hr9 hco hcl
      have fin : ∀ (e : Ending) (E9 : World), RQ w.heap.size F0 inp cs y ia ic wr (s9, er9) e E9 → ∃ (cs9 : List Cel) (ca9 : Option Addr) (cc9 : Nat) (oa9 : Option Addr) (oc9 : Nat), e = Ending.returned (envVal ca9 cs9.length cc9 ia inp.length ic oa9 s9.out.length oc9 (s9.rd : Int) (s9.st : Int) F0 er9) ∧ E9.heap[W1.heap.size]? = some (envObj none 0 0 none 0 0 none 0 0 0 0 0 0) ∧ celN cs9 = celN cs ∧ RSt w.heap.size F0 inp E9 s9 er9 cs9 y ca9 ia oa9 oc9 ∧ Below w.heap.size w E9 := by
        rintro e E9 ⟨cs9, ca9, cc9, oa9, oc9, rfl, hn9, _, hst9, hfr9⟩
        refine ⟨cs9, ca9, cc9, oa9, oc9, rfl, hfr9.still _ _ HJX.out.x1 (by show 45 ≠ 80; decide) (fun k hk hb => own_other (HCO.out.own k _ (List.getElem?_eq_getElem hk)) HJX.out.x1 (by decide) hb), hn9, hst9, HJX.out.low.trans hfr9.low⟩
      have HFIN := Lib.hid fin
      clear fin
      by_cases hneg : F < 0
      · have hf0 : F0 = 0 := by rw [HF0.out, if_pos hneg]
        subst hf0
        go_wp2_with fail
        clear x2 x4 x5 x6 x7
        refine HCB.out.mono ?_
        intro e E9 hq9
        obtain ⟨cs9, ca9, cc9, oa9, oc9, rfl, hx9, hn9, hst9, hlow9⟩ := HFIN.out e E9 hq9
        have HX9 := Lib.hid hx9
        have HN9 := Lib.hid hn9
        have HS9 := Lib.hid hst9
        have HL9 := Lib.hid hlow9
        clear hq9 hx9 hn9 hst9 hlow9 HCB HFIN
        obtain ⟨R, hR⟩ : ∃ R, set7 E9 W1.heap.size (.slice ca9 cs9.length cc9) (.slice ia inp.length ic) (.slice oa9 s9.out.length oc9) (.int .i64 (s9.rd : Int)) (.int .i64 (s9.st : Int)) (.int .i64 0) (.int .i64 er9) = R := ⟨_, rfl⟩
        have HXE : Hid (R.heap[W1.heap.size]? = some (envObj ca9 cs9.length cc9 ia inp.length ic oa9 s9.out.length oc9 (s9.rd : Int) (s9.st : Int) 0 er9)) := by show _ = _; rw [← hR]; exact set7_at _ _ _ _ _ _ _ HX9.out
        have HLR : Hid (Below w.heap.size w R) := by show Below _ _ _; rw [← hR]; exact set7_below HL9.out (by have := HLT.out; omega)
        have HSR : Hid (RSt w.heap.size 0 inp R s9 er9 cs9 y ca9 ia oa9 oc9) := HS9.out.off HX9.out (fun b hb => by rw [← hR]; exact set7_far hb) (by rw [← hR]; exact set7_below (Below.refl _ _) (by have := HLT.out; omega))
        obtain ⟨y0, y1, y2, y3, y4, y5, y6⟩ := env_cells HX9.out
        obtain ⟨q0, q1, q2, q3, q4, q5, q6⟩ := env_free HX9.out
        unfold set7 at hR
        go_wp2_with fail
        try rw [hR]
        clear y0 y1 y2 y3 y4 y5 y6 q0 q1 q2 q3 q4 q5 q6 hR
        obtain ⟨z0, z1, z2, z3, z4, z5, z6⟩ := env_cells HXE.out
        refine bodyPost_ret (v := envVal ca9 cs9.length cc9 ia inp.length ic oa9 s9.out.length oc9 (s9.rd : Int) (s9.st : Int) 0 er9) (by simp [results, Tryd.results19, go_sem, z0, z1, z2, z3, z4, z5, z6]) rfl ?_
        have hg : JobR w 0 inp cs ia ic (s9, er9) (.returned (envVal ca9 cs9.length cc9 ia inp.length ic oa9 s9.out.length oc9 (s9.rd : Int) (s9.st : Int) 0 er9)) R := ⟨cs9, y, ca9, cc9, oa9, oc9, rfl, HN9.out, HSR.out, HLR.out⟩
        rw [← HRE.out, ← HCJ.out] at hg
        exact hg
      · have hf0 : F0 = F := by rw [HF0.out, if_neg hneg]
        subst hf0
        go_wp2_with fail
        clear x2 x4 x5 x6 x7
        refine HCB.out.mono ?_
        intro e E9 hq9
        obtain ⟨cs9, ca9, cc9, oa9, oc9, rfl, hx9, hn9, hst9, hlow9⟩ := HFIN.out e E9 hq9
        have HX9 := Lib.hid hx9
        have HN9 := Lib.hid hn9
        have HS9 := Lib.hid hst9
        have HL9 := Lib.hid hlow9
        clear hq9 hx9 hn9 hst9 hlow9 HCB HFIN
        obtain ⟨R, hR⟩ : ∃ R, set7 E9 W1.heap.size (.slice ca9 cs9.length cc9) (.slice ia inp.length ic) (.slice oa9 s9.out.length oc9) (.int .i64 (s9.rd : Int)) (.int .i64 (s9.st : Int)) (.int .i64 F0) (.int .i64 er9) = R := ⟨_, rfl⟩
        have HXE : Hid (R.heap[W1.heap.size]? = some (envObj ca9 cs9.length cc9 ia inp.length ic oa9 s9.out.length oc9 (s9.rd : Int) (s9.st : Int) F0 er9)) := by show _ = _; rw [← hR]; exact set7_at _ _ _ _ _ _ _ HX9.out
        have HLR : Hid (Below w.heap.size w R) := by show Below _ _ _; rw [← hR]; exact set7_below HL9.out (by have := HLT.out; omega)
        have HSR : Hid (RSt w.heap.size F0 inp R s9 er9 cs9 y ca9 ia oa9 oc9) := HS9.out.off HX9.out (fun b hb => by rw [← hR]; exact set7_far hb) (by rw [← hR]; exact set7_below (Below.refl _ _) (by have := HLT.out; omega))
        obtain ⟨y0, y1, y2, y3, y4, y5, y6⟩ := env_cells HX9.out
        obtain ⟨q0, q1, q2, q3, q4, q5, q6⟩ := env_free HX9.out
        unfold set7 at hR
        go_wp2_with fail
        try rw [hR]
        clear y0 y1 y2 y3 y4 y5 y6 q0 q1 q2 q3 q4 q5 q6 hR
        obtain ⟨z0, z1, z2, z3, z4, z5, z6⟩ := env_cells HXE.out
        refine bodyPost_ret (v := envVal ca9 cs9.length cc9 ia inp.length ic oa9 s9.out.length oc9 (s9.rd : Int) (s9.st : Int) F0 er9) (by simp [results, Tryd.results19, go_sem, z0, z1, z2, z3, z4, z5, z6]) rfl ?_
        have hg : JobR w F0 inp cs ia ic (s9, er9) (.returned (envVal ca9 cs9.length cc9 ia inp.length ic oa9 s9.out.length oc9 (s9.rd : Int) (s9.st : Int) F0 er9)) R := ⟨cs9, y, ca9, cc9, oa9, oc9, rfl, HN9.out, HSR.out, HLR.out⟩
        rw [← HRE.out, ← HCJ.out] at hg
        exact hg
end Go.Proofs.YtgochgcchkdlmaaDoor
