/-
  Mg46: several texts in one (RegionZ, ValsRows).
-/
import Derived.Deep.RegionHeld
import Derived.StillTail
import Derived.Test.YteknhnnlhhgppaaDoorMg43
import Derived.Test.YteknhnnlhhgppaaDoorLiveInter
/-
  Regions whose last operations write: an operation that these wait for may be taken first, although they turn what it reads. No program is named here.
-/
namespace Go.Proofs.YteknhnnlhhgppaaDoor
set_option linter.unusedVariables false
set_option linter.unusedSimpArgs false
open Go

section
variable {P : Program} {ops : Array Oper} {Q : Exit → Act → World → Prop} {md : Region.Mode} {S : World → Prop} {z : Nat}
/-- whatever order is picked, and S holds behind every operation below z -/
def wpAnyZ (P : Program) (md : Region.Mode) (ops : Array Oper) (Q : Exit → Act → World → Prop) (S : World → Prop) (z : Nat) : Nat → Array Bool → Act → World → Prop
  | 0, listed, a, w => Region.ready md ops listed = [] ∧ Q .normal a w
  | fuel + 1, listed, a, w =>
    (Region.ready md ops listed = [] → Q .normal a w) ∧
    ∀ i ∈ Region.ready md ops listed, wpOp P ops Q i (fun a' w' => (i < z → S w') ∧ wpAnyZ P md ops Q S z fuel (listed.setIfInBounds i true) a' w') a w
theorem wpAny_of_Z : ∀ (fuel : Nat) (listed : Array Bool) (a : Act) (w : World), wpAnyZ P md ops Q S z fuel listed a w → wpAny P md ops Q fuel listed a w
  | 0, _, _, _, h => h
  | fuel + 1, _, _, _, h => ⟨h.1, fun i hi => wpOp_mono (fun a' w' h' => wpAny_of_Z fuel _ a' w' h'.2) (h.2 i hi)⟩
/-- all operations from z on wait for operation i -/
def tailWaits (md : Region.Mode) (ops : Array Oper) (z i : Nat) : Bool := (List.range ops.size).all fun j => decide (j < z) || Region.waitsFor md ops j i
theorem wpAnyZ_first {i : Nat} {oi : Oper} {v : Value} (hi : ops[i]? = some oi) (hsel : ∀ (j : Nat) (o : Oper) cs b, ops[j]? = some o → o.op ≠ .select cs b) (hz : tailWaits md ops z i = true)
    (hQ : ∀ c a w, Q (.panic c) (a.put oi.dst v) w → Q (.panic c) a w) :
    ∀ (fuel : Nat) (listed : Array Bool) (a : Act) (w : World),
      (∀ j oj, ops[j]? = some oj → j ≠ i → listed.getD j true = false → (∀ e ∈ oj.after, Region.binds md e = true → e.on ≠ i) → oi.apart ops oj = true) →
      i ∈ Region.ready md ops listed → YieldsIf P ops S oi v a → S w →
      wpAnyZ P md ops Q S z fuel (listed.setIfInBounds i true) (a.put oi.dst v) w → wpAnyZ P md ops Q S z (fuel + 1) listed a w := by
  intro fuel
  induction fuel with
  | zero =>
    intro listed a w _ hr hy hS H
    refine ⟨fun h => (by rw [h] at hr; cases hr), fun j hj => ?_⟩
    by_cases hji : j = i
    · subst hji; exact hy.wpOp hi hS ⟨fun _ => hS, H⟩
    · have := ready_mono hj hji
      rw [H.1] at this
      cases this
  | succ fuel ih =>
    intro listed a w hfree hr hy hS H
    refine ⟨fun h => (by rw [h] at hr; cases hr), fun j hj => ?_⟩
    by_cases hji : j = i
    · subst hji; exact hy.wpOp hi hS ⟨fun _ => hS, H⟩
    · have h1 := H.2 j (ready_mono hj hji)
      obtain ⟨hjun, oj, hoj, hall⟩ := mem_ready.1 hj
      have hnot : ∀ e ∈ oj.after, Region.binds md e = true → e.on ≠ i := fun e he hb heq => by
        have h1 := hall e he hb
        have h0 := (mem_ready.1 hr).1
        rw [heq] at h1
        rcases Nat.lt_or_ge i listed.size with h' | h'
        · simp [h'] at h0 h1; rw [h0] at h1; cases h1
        · simp [Array.getElem?_eq_none h'] at h1
      have hjz : j < z := by
        unfold tailWaits at hz
        have hjs : j < ops.size := (Array.getElem?_eq_some_iff.1 hoj).1
        have h4 := List.all_eq_true.1 hz j (List.mem_range.2 hjs)
        rw [Bool.or_eq_true, decide_eq_true_eq] at h4
        rcases h4 with h4 | h4
        · exact h4
        · obtain ⟨oj', hoj', e, he, hb, hon⟩ := Region.waitsFor_spec h4
          rw [hoj] at hoj'
          cases hoj'
          exact absurd hon (hnot e he hb)
      have h2 := wpOp_putIf hoj (hfree j oj hoj hji hjun hnot) (fun cs b => hsel i oi cs b hi) (fun cs b => hsel j oj cs b hoj) hQ hy h1
      have hfree' : ∀ k ok, ops[k]? = some ok → k ≠ i → (listed.setIfInBounds j true).getD k true = false →
          (∀ e ∈ ok.after, Region.binds md e = true → e.on ≠ i) → oi.apart ops ok = true := fun k ok hk hki hun hno => by
        refine hfree k ok hk hki ?_ hno
        by_cases hjk : j = k
        · subst hjk; exact hjun
        · rw [getD_set_ne true hjk] at hun; exact hun
      refine wpOp_mono (fun a' w' h3 => ⟨fun _ => h3.2.1 hjz, ih (listed.setIfInBounds j true) a' w' hfree' (ready_mono hr (Ne.symm hji)) h3.1 (h3.2.1 hjz) ?_⟩) h2
      rw [Array.setIfInBounds_comm _ _ hji]
      exact h3.2.2
theorem wpAnyZ_take {i : Nat} {oi : Oper} {v : Value} {fuel : Nat} {listed : Array Bool} {a : Act} {w : World} (hi : ops[i]? = some oi)
    (hs : Region.noSelect ops = true) (hf : Region.free md ops listed i = true) (hr : (Region.ready md ops listed).contains i = true) (hz : tailWaits md ops z i = true)
    (hQ : ∀ c a w, Q (.panic c) (a.put oi.dst v) w → Q (.panic c) a w) (hy : YieldsIf P ops S oi v a) (hS : S w)
    (h : wpAnyZ P md ops Q S z fuel (listed.setIfInBounds i true) (a.put oi.dst v) w) : wpAnyZ P md ops Q S z (fuel + 1) listed a w :=
  wpAnyZ_first hi (Region.noSelect_spec hs) hz hQ fuel listed a w (Region.free_spec hi hf) (by simpa using hr) hy hS h
/-- the same, its side conditions by the kernel -/
theorem zT {fuel : Nat} {listed : Array Bool} {a : Act} {w : World} (i : Nat) (v : Value) {oi : Oper} (hi : ops[i]? = some oi) (hs : Region.noSelect ops = true := by kernel_rfl) (hf : Region.free md ops listed i = true := by kernel_rfl)
    (hr : (Region.ready md ops listed).contains i = true := by kernel_rfl) (hz : tailWaits md ops z i = true := by kernel_rfl) (hQ : ∀ c a w, Q (.panic c) (a.put oi.dst v) w → Q (.panic c) a w := by exact fun _ _ _ h => h) (hw : Region.wanted oi (yielded ops a.tmps) = true := by rfl) (hS : S w := by assumption)
    (hy : ∀ w, S w → (execOp a.eval oi).run P w = .ok (.value v) w) (h : wpAnyZ P md ops Q S z fuel (listed.setIfInBounds i true) (a.put oi.dst v) w) : wpAnyZ P md ops Q S z (fuel + 1) listed a w :=
  wpAnyZ_take hi hs hf hr hz hQ (Or.inl ⟨hw, hy⟩) hS h
theorem wpAnyZ_all {rs : List Nat} {fuel : Nat} {listed : Array Bool} {a : Act} {w : World} (hr : Region.ready md ops listed = rs) (hne : rs ≠ [])
    (h : ∀ i ∈ rs, wpOp P ops Q i (fun a' w' => (i < z → S w') ∧ wpAnyZ P md ops Q S z fuel (listed.setIfInBounds i true) a' w') a w) : wpAnyZ P md ops Q S z (fuel + 1) listed a w :=
  ⟨fun h0 => absurd (hr ▸ h0) hne, hr ▸ h⟩
theorem wpAnyZ_done {listed : Array Bool} {a : Act} {w : World} (hr : Region.ready md ops listed = []) (h : Q .normal a w) :
    ∀ fuel, wpAnyZ P md ops Q S z fuel listed a w
  | 0 => ⟨hr, h⟩
  | _ + 1 => ⟨fun _ => h, by rw [hr]; simp⟩
def AllReadyZ (P : Program) (md : Region.Mode) (ops : Array Oper) (Q : Exit → Act → World → Prop) (S : World → Prop) (z fuel : Nat) (listed : Array Bool) (a : Act) (w : World) (rs : List Nat) : Prop :=
  ∀ i ∈ rs, wpOp P ops Q i (fun a' w' => (i < z → S w') ∧ wpAnyZ P md ops Q S z fuel (listed.setIfInBounds i true) a' w') a w
theorem AllReadyZ.nil {fuel : Nat} {listed : Array Bool} {a : Act} {w : World} : AllReadyZ P md ops Q S z fuel listed a w [] := fun _ h => by cases h
theorem AllReadyZ.cons {fuel : Nat} {listed : Array Bool} {a : Act} {w : World} {i : Nat} {o : Oper} {rs : List Nat} (ho : ops[i]? = some o)
    (h : ∀ K' : Act → World → Prop, Shut (∀ a w, S w → (S w → wpAnyZ P md ops Q S z fuel (listed.setIfInBounds i true) a w) → K' a w) → if Region.wanted o (yielded ops a.tmps) = true then Oper.wp P o a w K' Q else K' (a.put o.dst undef) w)
    (hs : AllReadyZ P md ops Q S z fuel listed a w rs) : AllReadyZ P md ops Q S z fuel listed a w (i :: rs) := fun j hj => by
  rcases List.mem_cons.1 hj with rfl | hj
  · exact wpOp_step ho (fun K' hK => h K' (fun a w hS hW => hK a w ⟨fun _ => hS, hW hS⟩))
  · exact hs j hj
/-- one of the last: S is not asked behind it -/
theorem AllReadyZ.last {fuel : Nat} {listed : Array Bool} {a : Act} {w : World} {i : Nat} {o : Oper} {rs : List Nat} (ho : ops[i]? = some o) (hi : z ≤ i)
    (h : ∀ K' : Act → World → Prop, Shut (∀ a w, wpAnyZ P md ops Q S z fuel (listed.setIfInBounds i true) a w → K' a w) → if Region.wanted o (yielded ops a.tmps) = true then Oper.wp P o a w K' Q else K' (a.put o.dst undef) w)
    (hs : AllReadyZ P md ops Q S z fuel listed a w rs) : AllReadyZ P md ops Q S z fuel listed a w (i :: rs) := fun j hj => by
  rcases List.mem_cons.1 hj with rfl | hj
  · exact wpOp_step ho (fun K' hK => h K' (fun a w hW => hK a w ⟨fun hlt => absurd hlt (by omega), hW⟩))
  · exact hs j hj
theorem wpAnyZ_ready {rs : List Nat} {fuel : Nat} {listed : Array Bool} {a : Act} {w : World} (hr : Region.ready md ops listed = rs) (hne : rs ≠ [])
    (h : AllReadyZ P md ops Q S z fuel listed a w rs) : wpAnyZ P md ops Q S z (fuel + 1) listed a w := wpAnyZ_all hr hne h
theorem zR {fuel : Nat} {listed : Array Bool} {a : Act} {w : World} (i : Nat) {o : Oper} (ho : ops[i]? = some o)
    (h : ∀ K' : Act → World → Prop, Shut (∀ a w, S w → (S w → wpAnyZ P md ops Q S z fuel (listed.setIfInBounds i true) a w) → K' a w) → if Region.wanted o (yielded ops a.tmps) = true then Oper.wp P o a w K' Q else K' (a.put o.dst undef) w)
    (hr : Region.ready md ops listed = [i] := by kernel_rfl) : wpAnyZ P md ops Q S z (fuel + 1) listed a w := wpAnyZ_ready hr (by simp) (AllReadyZ.cons ho h AllReadyZ.nil)
theorem wp_region_z {id : Nat} (z : Nat) {a : Act} {w : World} (hm : P.follows .mixedOrders = true) (hS : S w.drew)
    (h : S w.drew → wpAnyZ P .any ops Q S z ops.size (Array.replicate ops.size false) a w.drew) : (Code.region id ops true).wp P Q a w :=
  wp_region_any hm (wpAny_of_Z _ _ _ _ (h hS))
end
end Go.Proofs.YteknhnnlhhgppaaDoor

/-
  Contracts: rows of rows of ints held against one another (slices.EqualFunc with slices.Equal); rows whose ints are overwritten.
-/
namespace Go.Proofs.YteknhnnlhhgppaaDoor
set_option linter.unusedVariables false
set_option linter.unusedSimpArgs false
open Go.RowKit
set_option maxRecDepth 100000
set_option maxHeartbeats 8000000

/-- rows of ints, wherever they lie -/
def RowsI (w : World) (v : Value) (ls : List (List Int)) : Prop :=
  ls.length ≤ 1000000 ∧ ∃ a c, v = .slice a ls.length c ∧ (ls.length = 0 ∨ ∃ b off, a = some ⟨b, off, none⟩ ∧ ∀ (i : Nat) (l : List Int), ls[i]? = some l → l.length ≤ 1000000 ∧ ∃ u, w.cell? ⟨b, off + i, none⟩ = some u ∧ IntsAt w u l)
theorem RowsI.below {w w' : World} {v : Value} {ls : List (List Int)} (h : RowsI w v ls) (hB : Below w.heap.size w w') : RowsI w' v ls := by
  obtain ⟨h0, a, c, rfl, h⟩ := h
  refine ⟨h0, a, c, rfl, ?_⟩
  rcases h with h | ⟨b, off, ha, hc⟩
  · exact .inl h
  · refine .inr ⟨b, off, ha, fun i l hl => ?_⟩
    obtain ⟨h1, u, h2, h3⟩ := hc i l hl
    exact ⟨h1, u, cell_below hB h2, h3.below hB⟩
theorem IRows.rowsI {B : Nat} {w : World} {v : Value} {rows : List (Value × List Int)} (h : IRows B w v rows) (hn : rows.length ≤ 1000000) (hl : ∀ p ∈ rows, p.2.length ≤ 1000000) : RowsI w v (rows.map (·.2)) := by
  obtain ⟨a, c, rfl⟩ := h.val
  refine ⟨by rw [List.length_map]; exact hn, a, c, by rw [List.length_map], ?_⟩
  rcases Nat.eq_zero_or_pos rows.length with h0 | h0
  · exact .inl (by rw [List.length_map]; exact h0)
  · obtain ⟨g, rfl, _⟩ := own_some h.ro h0
    refine .inr ⟨g, 0, rfl, fun i l hi => ?_⟩
    rw [List.getElem?_map] at hi
    obtain ⟨p, hp, rfl⟩ := Option.map_eq_some_iff.1 hi
    refine ⟨hl p (List.mem_of_getElem? hp), p.1, ?_, (h.ri p (List.mem_of_getElem? hp)).at_⟩
    rw [Nat.zero_add]
    exact own_cell h.ro (by rw [List.getElem?_map, hp]; rfl)
theorem sameRows_any (ls : List (List Int)) (va vb : Value) (w : World) (ha : RowsI w va ls) (hb : RowsI w vb ls) :
    Calls Tryd.prog 31 #[va, vb, .func (.func 16) #[] #[]] w fun e w' => e = .returned (.bool true) ∧ Below w.heap.size w w' := by
  obtain ⟨hl, a, c, rfl, hla⟩ := ha
  obtain ⟨_, b, d, rfl, hlb⟩ := hb
  have HLA := Lib.hid hla
  have HLB := Lib.hid hlb
  obtain ⟨n, hn⟩ : ∃ n, ls.length = n := ⟨_, rfl⟩
  have HN := Lib.hid hn
  rw [hn] at hl ⊢
  clear hla hlb hn
  go_enter Tryd.func31, Tryd.ntmps31
  go_wp2_with fail
  go_loopw [17] (fun i wr => ∃ j : Nat, j ≤ n ∧ i = .int .i64 (j : Int) ∧ Below w.heap.size w wr) (fun i _ => n - (intOf i).toNat)
  case atStart => exact ⟨0, Nat.zero_le _, rfl, Below.refl _ _⟩
  case round =>
    obtain ⟨j, hj, rfl, hB⟩ := hrel
    have HB := Lib.hid hB
    have hj0 : (0 : Int) ≤ (j : Int) := by omega
    clear hB
    by_cases hlt : j < n
    · have hlt2 : (j : Int) < (n : Int) := by omega
      obtain ⟨l, hx⟩ : ∃ l, ls[j]? = some l := ⟨_, List.getElem?_eq_getElem (by rw [HN.out]; exact hlt)⟩
      rcases HLA.out with h0 | ⟨lb, lo, rfl, hc⟩
      · have := HN.out; omega
      rcases HLB.out with h0 | ⟨mb, mo, rfl, hd⟩
      · have := HN.out; omega
      obtain ⟨hl1, u, hu, hui⟩ := hc j l hx
      obtain ⟨_, v, hv, hvi⟩ := hd j l hx
      have c1 := cell_below HB.out hu
      have c2 := cell_below HB.out hv
      have HU := Lib.hid (hui.below HB.out)
      have HV := Lib.hid (hvi.below HB.out)
      have HL1 := Lib.hid hl1
      clear hc hd hx hu hv hl1
      obtain ⟨ua, uc, rfl, _⟩ := hui
      obtain ⟨va', vc, rfl, _⟩ := hvi
      go_wp2_with fail
      refine (intsSame_any l _ _ _ HU.out HV.out HL1.out).mono ?_
      rintro e w2 ⟨rfl, hB2⟩
      have HB2 : Hid (Below w.heap.size w w2) := below_step HB.out hB2
      clear hB2 c1 c2
      go_wp2_with fail
      exact ⟨⟨j + 1, by omega, by go_num, HB2.out⟩, by simp [intOf]; omega⟩
    · obtain rfl : n = j := by omega
      go_wp2_with fail
      go_ret
      exact ⟨rfl, HB.out⟩
theorem same30_any (ls : List (List Int)) (va vb : Value) (w : World) (ha : RowsI w va ls) (hb : RowsI w vb ls) :
    Calls Tryd.prog 30 #[va, vb] w fun e w' => e = .returned (.bool true) ∧ Below w.heap.size w w' := by
  have HA := Lib.hid ha
  have HB := Lib.hid hb
  obtain ⟨_, a, c, rfl, _⟩ := ha
  obtain ⟨_, b, d, rfl, _⟩ := hb
  go_enter Tryd.func30, Tryd.ntmps30
  go_wp2_with fail
  refine (sameRows_any ls _ _ _ HA.out HB.out).mono ?_
  rintro e w2 ⟨rfl, hB2⟩
  have HB2 := Lib.hid hB2
  clear hB2
  go_wp2_with fail
  go_ret
  exact ⟨rfl, HB2.out⟩
/-- a row of ints of the call's own, whatever it holds -/
def RowK (B : Nat) (w : World) (a : Option Addr) (len : Nat) : Prop :=
  len = 0 ∨ ∃ b cur, a = some ⟨b, 0, none⟩ ∧ B ≤ b ∧ w.heap[b]? = some (.cells cur 3) ∧ len ≤ cur.size
/-- rows of ints of the call's own, whatever they hold -/
def WRow (B : Nat) (w : World) (g n : Nat) : Prop :=
  ∃ arr, w.heap[g]? = some (.cells arr 39) ∧ ∀ k, k < n → ∃ a len cap, arr[k]? = some (.slice a len cap) ∧ len ≤ 12 ∧ RowK B w a len
section
variable {B : Nat} {w : World} {b i : Nat} {cur : Array Value} {u : Value}
theorem RowK.set {a : Option Addr} {len : Nat} (h : RowK B w a len) (hb : w.heap[b]? = some (.cells cur 3)) : RowK B (w.setCell ⟨b, i, none⟩ u) a len := by
  rcases h with h | ⟨b', cur', ha, hB, hc, hl⟩
  · exact .inl h
  · by_cases e : b' = b
    · subst e
      rw [hb] at hc
      injection hc with hc
      injection hc with hc
      subst hc
      exact .inr ⟨b', _, ha, hB, setCell_heap hb, by simpa using hl⟩
    · exact .inr ⟨b', cur', ha, hB, (Below.heap_setCell _ _ _ _ e).trans hc, hl⟩
theorem WRow.set {g n : Nat} (h : WRow B w g n) (hb : w.heap[b]? = some (.cells cur 3)) : WRow B (w.setCell ⟨b, i, none⟩ u) g n := by
  obtain ⟨arr, hg, hk⟩ := h
  have hne : g ≠ b := by
    rintro rfl
    rw [hg] at hb
    injection hb with hb
    injection hb with _ e
    cases e
  refine ⟨arr, (Below.heap_setCell _ _ _ _ hne).trans hg, fun k hkn => ?_⟩
  obtain ⟨a, len, cap, h1, h2, h3⟩ := hk k hkn
  exact ⟨a, len, cap, h1, h2, h3.set hb⟩
end
/-- what the loops that overwrite keep -/
structure WrSt (V : World) (tb ig ic og oc n : Nat) (w : World) : Prop where
  low : Below V.heap.size V w
  box : w.heap[tb]? = some (.cells #[.slice (some ⟨ig, 0, none⟩) n ic, .slice (some ⟨og, 0, none⟩) n oc] 30)
  inr : WRow V.heap.size w ig n
  our : WRow V.heap.size w og n
theorem WrSt.set {V w : World} {tb ig ic og oc n b i : Nat} {cur : Array Value} {u : Value} (h : WrSt V tb ig ic og oc n w) (hB : V.heap.size ≤ b) (hb : w.heap[b]? = some (.cells cur 3)) : WrSt V tb ig ic og oc n (w.setCell ⟨b, i, none⟩ u) := by
  have hne : tb ≠ b := by
    rintro rfl
    have h9 := h.box
    rw [hb] at h9
    injection h9 with h9
    injection h9 with _ e
    cases e
  exact ⟨h.low.setCell hB _, (Below.heap_setCell _ _ _ _ hne).trans h.box, h.inr.set hb, h.our.set hb⟩
theorem IRows.wrow {B g n c : Nat} {w : World} {rows : List (Value × List Int)} (h : IRows B w (.slice (some ⟨g, 0, none⟩) n c) rows) (hn : n = rows.length) (hl : ∀ p ∈ rows, p.2.length ≤ 12) : WRow B w g n := by
  subst hn
  have hro := h.ro
  rcases hro.2 with ⟨e1, _⟩ | ⟨g', cap, cur, e1, _, hc, h1, _, h2, h3⟩
  · cases e1
  injection e1 with e1 _ _
  injection e1 with e1
  injection e1 with e1
  subst e1
  refine ⟨cur, hc, fun k hk => ?_⟩
  obtain ⟨p, hp⟩ : ∃ p, rows[k]? = some p := ⟨_, List.getElem?_eq_getElem hk⟩
  obtain ⟨v, l⟩ := p
  have hcell := own_cell h.ro (show (rows.map (·.1))[k]? = some v by rw [List.getElem?_map, hp]; rfl)
  rw [cell_heap hc] at hcell
  have hri : IntRow B w v l := h.ri _ (List.mem_of_getElem? hp)
  obtain ⟨a, c', rfl⟩ := hri.val
  refine ⟨a, l.length, c', hcell, hl _ (List.mem_of_getElem? hp), ?_⟩
  rcases Nat.eq_zero_or_pos l.length with h0 | h0
  · exact .inl h0
  · rcases hri.2 with ⟨e1, e2⟩ | ⟨gb, cap', cur', e1, hB, hc', h4, _, h5, _⟩
    · omega
    · injection e1 with e1 _ e3
      subst e3
      exact .inr ⟨gb, cur', e1, hB, hc', by omega⟩
/-- interference is one and the same at each call -/
theorem inter_unique {f : Fn} {R : Nat} {ins outs ins' outs' ss ss' : List Nat} (hF : FormR f R) (h : Sol f R ins outs) (h' : Sol f R ins' outs') (hl : ss.length = R) (hl' : ss'.length = R)
    (hb : ∀ a c, a < R → ((ss.getD a 0).testBit c = true ↔ SymP (DefS f outs f.blocks.length 0) R a c)) (hb' : ∀ a c, a < R → ((ss'.getD a 0).testBit c = true ↔ SymP (DefS f outs' f.blocks.length 0) R a c)) : ss = ss' := by
  obtain ⟨_, rfl⟩ := h.unique h' hF
  apply List.ext_getElem (by rw [hl, hl'])
  intro i h1 h2
  have e1 : ss.getD i 0 = ss[i] := by rw [List.getD_eq_getElem?_getD, List.getElem?_eq_getElem h1]; rfl
  have e2 : ss'.getD i 0 = ss'[i] := by rw [List.getD_eq_getElem?_getD, List.getElem?_eq_getElem h2]; rfl
  rw [← e1, ← e2]
  apply Nat.eq_of_testBit_eq
  intro c
  rw [Bool.eq_iff_iff, hb i c (by omega), hb' i c (by omega)]
end Go.Proofs.YteknhnnlhhgppaaDoor
