/-
  Contracts: rows of rows of ints held against one another (slices.EqualFunc with slices.Equal); rows whose ints are overwritten.
-/
import Derived.Test.YteknhnnlhhgppaaDoorLiveRows
import Derived.Test.YteknhnnlhhgppaaDoorLiveInter
namespace Go.Proofs.YteknhnnlhhgppaaDoor
set_option linter.unusedVariables false
set_option linter.unusedSimpArgs false
open Go.RowKit
set_option maxRecDepth 100000
set_option maxHeartbeats 8000000

/-- rows of ints, wherever they lie -/
def RowsI (w : World) (v : Value) (ls : List (List Int)) : Prop :=
  ls.length ≤ 1000000 ∧ ∃ a c, v = .slice a ls.length c ∧ (ls.length = 0 ∨ ∃ b off, a = some ⟨b, off, none⟩ ∧ ∀ (i : Nat) (l : List Int), ls[i]? = some l → l.length ≤ 1000000 ∧ ∃ u, w.cell? ⟨b, off + i, none⟩ = some u ∧ IntsAt w u l)
theorem RowsI.below {w w' : World} {v : Value} {ls : List (List Int)} (h : RowsI w v ls) (hB : Below w.heap.size w w') : RowsI w' v ls := by
  obtain ⟨h0, a, c, rfl, h⟩ := h
  refine ⟨h0, a, c, rfl, ?_⟩
  rcases h with h | ⟨b, off, ha, hc⟩
  · exact .inl h
  · refine .inr ⟨b, off, ha, fun i l hl => ?_⟩
    obtain ⟨h1, u, h2, h3⟩ := hc i l hl
    exact ⟨h1, u, cell_below hB h2, h3.below hB⟩
theorem IRows.rowsI {B : Nat} {w : World} {v : Value} {rows : List (Value × List Int)} (h : IRows B w v rows) (hn : rows.length ≤ 1000000) (hl : ∀ p ∈ rows, p.2.length ≤ 1000000) : RowsI w v (rows.map (·.2)) := by
  obtain ⟨a, c, rfl⟩ := h.val
  refine ⟨by rw [List.length_map]; exact hn, a, c, by rw [List.length_map], ?_⟩
  rcases Nat.eq_zero_or_pos rows.length with h0 | h0
  · exact .inl (by rw [List.length_map]; exact h0)
  · obtain ⟨g, rfl, _⟩ := own_some h.ro h0
    refine .inr ⟨g, 0, rfl, fun i l hi => ?_⟩
    rw [List.getElem?_map] at hi
    obtain ⟨p, hp, rfl⟩ := Option.map_eq_some_iff.1 hi
    refine ⟨hl p (List.mem_of_getElem? hp), p.1, ?_, (h.ri p (List.mem_of_getElem? hp)).at_⟩
    rw [Nat.zero_add]
    exact own_cell h.ro (by rw [List.getElem?_map, hp]; rfl)
theorem sameRows_any (ls : List (List Int)) (va vb : Value) (w : World) (ha : RowsI w va ls) (hb : RowsI w vb ls) :
    Calls Tryd.prog 31 #[va, vb, .func (.func 16) #[] #[]] w fun e w' => e = .returned (.bool true) ∧ Below w.heap.size w w' := by
  obtain ⟨hl, a, c, rfl, hla⟩ := ha
  obtain ⟨_, b, d, rfl, hlb⟩ := hb
  have HLA := Lib.hid hla
  have HLB := Lib.hid hlb
  obtain ⟨n, hn⟩ : ∃ n, ls.length = n := ⟨_, rfl⟩
  have HN := Lib.hid hn
  rw [hn] at hl ⊢
  clear hla hlb hn
  go_enter Tryd.func31, Tryd.ntmps31
  go_wp2_with fail
  go_loopw [17] (fun i wr => ∃ j : Nat, j ≤ n ∧ i = .int .i64 (j : Int) ∧ Below w.heap.size w wr) (fun i _ => n - (intOf i).toNat)
  case atStart => exact ⟨0, Nat.zero_le _, rfl, Below.refl _ _⟩
  case round =>
    obtain ⟨j, hj, rfl, hB⟩ := hrel
    have HB := Lib.hid hB
    have hj0 : (0 : Int) ≤ (j : Int) := by omega
    clear hB
    by_cases hlt : j < n
    · have hlt2 : (j : Int) < (n : Int) := by omega
      obtain ⟨l, hx⟩ : ∃ l, ls[j]? = some l := ⟨_, List.getElem?_eq_getElem (by rw [HN.out]; exact hlt)⟩
      rcases HLA.out with h0 | ⟨lb, lo, rfl, hc⟩
      · have := HN.out; omega
      rcases HLB.out with h0 | ⟨mb, mo, rfl, hd⟩
      · have := HN.out; omega
      obtain ⟨hl1, u, hu, hui⟩ := hc j l hx
      obtain ⟨_, v, hv, hvi⟩ := hd j l hx
      have c1 := cell_below HB.out hu
      have c2 := cell_below HB.out hv
      have HU := Lib.hid (hui.below HB.out)
      have HV := Lib.hid (hvi.below HB.out)
      have HL1 := Lib.hid hl1
      clear hc hd hx hu hv hl1
      obtain ⟨ua, uc, rfl, _⟩ := hui
      obtain ⟨va', vc, rfl, _⟩ := hvi
      go_wp2_with fail
      refine (intsSame_any l _ _ _ HU.out HV.out HL1.out).mono ?_
      rintro e w2 ⟨rfl, hB2⟩
      have HB2 : Hid (Below w.heap.size w w2) := below_step HB.out hB2
      clear hB2 c1 c2
      go_wp2_with fail
      exact ⟨⟨j + 1, by omega, by go_num, HB2.out⟩, by simp [intOf]; omega⟩
    · obtain rfl : n = j := by omega
      go_wp2_with fail
      go_ret
      exact ⟨rfl, HB.out⟩
theorem same30_any (ls : List (List Int)) (va vb : Value) (w : World) (ha : RowsI w va ls) (hb : RowsI w vb ls) :
    Calls Tryd.prog 30 #[va, vb] w fun e w' => e = .returned (.bool true) ∧ Below w.heap.size w w' := by
  have HA := Lib.hid ha
  have HB := Lib.hid hb
  obtain ⟨_, a, c, rfl, _⟩ := ha
  obtain ⟨_, b, d, rfl, _⟩ := hb
  go_enter Tryd.func30, Tryd.ntmps30
  go_wp2_with fail
  refine (sameRows_any ls _ _ _ HA.out HB.out).mono ?_
  rintro e w2 ⟨rfl, hB2⟩
  have HB2 := Lib.hid hB2
  clear hB2
  go_wp2_with fail
  go_ret
  exact ⟨rfl, HB2.out⟩
/-- a row of ints of the call's own, whatever it holds -/
def RowK (B : Nat) (w : World) (a : Option Addr) (len : Nat) : Prop :=
  len = 0 ∨ ∃ b cur, a = some ⟨b, 0, none⟩ ∧ B ≤ b ∧ w.heap[b]? = some (.cells cur 3) ∧ len ≤ cur.size
/-- rows of ints of the call's own, whatever they hold -/
def WRow (B : Nat) (w : World) (g n : Nat) : Prop :=
  ∃ arr, w.heap[g]? = some (.cells arr 39) ∧ ∀ k, k < n → ∃ a len cap, arr[k]? = some (.slice a len cap) ∧ len ≤ 12 ∧ RowK B w a len
section
variable {B : Nat} {w : World} {b i : Nat} {cur : Array Value} {u : Value}
theorem RowK.set {a : Option Addr} {len : Nat} (h : RowK B w a len) (hb : w.heap[b]? = some (.cells cur 3)) : RowK B (w.setCell ⟨b, i, none⟩ u) a len := by
  rcases h with h | ⟨b', cur', ha, hB, hc, hl⟩
  · exact .inl h
  · by_cases e : b' = b
    · subst e
      rw [hb] at hc
      injection hc with hc
      injection hc with hc
      subst hc
      exact .inr ⟨b', _, ha, hB, setCell_heap hb, by simpa using hl⟩
    · exact .inr ⟨b', cur', ha, hB, (Below.heap_setCell _ _ _ _ e).trans hc, hl⟩
theorem WRow.set {g n : Nat} (h : WRow B w g n) (hb : w.heap[b]? = some (.cells cur 3)) : WRow B (w.setCell ⟨b, i, none⟩ u) g n := by
  obtain ⟨arr, hg, hk⟩ := h
  have hne : g ≠ b := by
    rintro rfl
    rw [hg] at hb
    injection hb with hb
    injection hb with _ e
    cases e
  refine ⟨arr, (Below.heap_setCell _ _ _ _ hne).trans hg, fun k hkn => ?_⟩
  obtain ⟨a, len, cap, h1, h2, h3⟩ := hk k hkn
  exact ⟨a, len, cap, h1, h2, h3.set hb⟩
end
/-- what the loops that overwrite keep -/
structure WrSt (V : World) (tb ig ic og oc n : Nat) (w : World) : Prop where
  low : Below V.heap.size V w
  box : w.heap[tb]? = some (.cells #[.slice (some ⟨ig, 0, none⟩) n ic, .slice (some ⟨og, 0, none⟩) n oc] 30)
  inr : WRow V.heap.size w ig n
  our : WRow V.heap.size w og n
theorem WrSt.set {V w : World} {tb ig ic og oc n b i : Nat} {cur : Array Value} {u : Value} (h : WrSt V tb ig ic og oc n w) (hB : V.heap.size ≤ b) (hb : w.heap[b]? = some (.cells cur 3)) : WrSt V tb ig ic og oc n (w.setCell ⟨b, i, none⟩ u) := by
  have hne : tb ≠ b := by
    rintro rfl
    have h9 := h.box
    rw [hb] at h9
    injection h9 with h9
    injection h9 with _ e
    cases e
  exact ⟨h.low.setCell hB _, (Below.heap_setCell _ _ _ _ hne).trans h.box, h.inr.set hb, h.our.set hb⟩
theorem IRows.wrow {B g n c : Nat} {w : World} {rows : List (Value × List Int)} (h : IRows B w (.slice (some ⟨g, 0, none⟩) n c) rows) (hn : n = rows.length) (hl : ∀ p ∈ rows, p.2.length ≤ 12) : WRow B w g n := by
  subst hn
  have hro := h.ro
  rcases hro.2 with ⟨e1, _⟩ | ⟨g', cap, cur, e1, _, hc, h1, _, h2, h3⟩
  · cases e1
  injection e1 with e1 _ _
  injection e1 with e1
  injection e1 with e1
  subst e1
  refine ⟨cur, hc, fun k hk => ?_⟩
  obtain ⟨p, hp⟩ : ∃ p, rows[k]? = some p := ⟨_, List.getElem?_eq_getElem hk⟩
  obtain ⟨v, l⟩ := p
  have hcell := own_cell h.ro (show (rows.map (·.1))[k]? = some v by rw [List.getElem?_map, hp]; rfl)
  rw [cell_heap hc] at hcell
  have hri : IntRow B w v l := h.ri _ (List.mem_of_getElem? hp)
  obtain ⟨a, c', rfl⟩ := hri.val
  refine ⟨a, l.length, c', hcell, hl _ (List.mem_of_getElem? hp), ?_⟩
  rcases Nat.eq_zero_or_pos l.length with h0 | h0
  · exact .inl h0
  · rcases hri.2 with ⟨e1, e2⟩ | ⟨gb, cap', cur', e1, hB, hc', h4, _, h5, _⟩
    · omega
    · injection e1 with e1 _ e3
      subst e3
      exact .inr ⟨gb, cur', e1, hB, hc', by omega⟩
/-- interference is one and the same at each call -/
theorem inter_unique {f : Fn} {R : Nat} {ins outs ins' outs' ss ss' : List Nat} (hF : FormR f R) (h : Sol f R ins outs) (h' : Sol f R ins' outs') (hl : ss.length = R) (hl' : ss'.length = R)
    (hb : ∀ a c, a < R → ((ss.getD a 0).testBit c = true ↔ SymP (DefS f outs f.blocks.length 0) R a c)) (hb' : ∀ a c, a < R → ((ss'.getD a 0).testBit c = true ↔ SymP (DefS f outs' f.blocks.length 0) R a c)) : ss = ss' := by
  obtain ⟨_, rfl⟩ := h.unique h' hF
  apply List.ext_getElem (by rw [hl, hl'])
  intro i h1 h2
  have e1 : ss.getD i 0 = ss[i] := by rw [List.getD_eq_getElem?_getD, List.getElem?_eq_getElem h1]; rfl
  have e2 : ss'.getD i 0 = ss'[i] := by rw [List.getD_eq_getElem?_getD, List.getElem?_eq_getElem h2]; rfl
  rw [← e1, ← e2]
  apply Nat.eq_of_testBit_eq
  intro c
  rw [Bool.eq_iff_iff, hb i c (by omega), hb' i c (by omega)]
end Go.Proofs.YteknhnnlhhgppaaDoor
