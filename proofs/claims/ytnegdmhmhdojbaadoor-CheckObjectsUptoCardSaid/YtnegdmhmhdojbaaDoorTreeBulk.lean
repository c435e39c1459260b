/-
  A node that reads as data lies in memory as a tree, and the tree is no greater than the data's bulk.
-/
import Derived.Test.YtnegdmhmhdojbaaDoorOpens
namespace Go.Proofs.YtnegdmhmhdojbaaDoor
set_option linter.unusedVariables false
set_option linter.unusedSimpArgs false
open Go.ChangeShapes Go.WideShapes Go.ChangeAt Go.RowKit
set_option maxRecDepth 100000

theorem bulk_one {H : Type} (d : DataW H) : 1 ≤ Rows.uptoBulk d := by
  cases d with
  | lit l => cases l <;> simp [Rows.uptoBulk]
  | nil => simp [Rows.uptoBulk]
  | ptr d => simp [Rows.uptoBulk]
  | slice elems spare => simp [Rows.uptoBulk]
  | agg parts => simp [Rows.uptoBulk]
  | iface t d => simp [Rows.uptoBulk]
  | map entries => simp [Rows.uptoBulk]
  | held h => simp [Rows.uptoBulk]
theorem bulk_part {H : Type} {d : DataW H} {l : List (DataW H)} (h : d ∈ l) : Rows.uptoBulk d ≤ Rows.uptoBulkAll l := by
  induction l with
  | nil => cases h
  | cons x r ih =>
    simp only [Rows.uptoBulkAll]
    cases List.mem_cons.1 h with
    | inl e => subst e; omega
    | inr e => have := ih e; omega
theorem sumTo_front (g : Nat → Nat) : ∀ n, Tree.sumTo g (n + 1) = g 0 + Tree.sumTo (fun i => g (i + 1)) n
  | 0 => by rw [Tree.sumTo_succ]; simp [Tree.sumTo]
  | n + 1 => by rw [Tree.sumTo_succ, sumTo_front g n, Tree.sumTo_succ]; omega
theorem bulk_sum {H : Type} : ∀ (l : List (DataW H)) (g : Nat → Nat), (∀ i (h : i < l.length), g i ≤ Rows.uptoBulk l[i]) → Tree.sumTo g l.length ≤ Rows.uptoBulkAll l
  | [], g, _ => by simp [Tree.sumTo]
  | d :: l, g, h => by
    have h0 := h 0 (by simp)
    have h1 := bulk_sum l (fun i => g (i + 1)) (fun i hi => h (i + 1) (by simpa using hi))
    rw [List.length_cons, sumTo_front]
    simp only [Rows.uptoBulkAll, List.getElem_cons_zero] at h0 ⊢
    omega
section
variable {H : Type} {enc : TypeId × Value → H} {w : World} {base : Nat} {sp : Nat → Bool} {held : Bool}
theorem tree_bulk (fuel : Nat) : ∀ (cs : List Value) (x : DataW H × List MemPlace), DataW.trod enc Tryd.prog w base sp held fuel 43 cs = some x →
    ∃ (t : Tree) (a : Option Addr) (c : Nat), cs = [.int .u8 t.kind, .int .i64 t.num, .string t.name, .slice a t.len c] ∧ Rep w t a ∧ t.size ≤ Rows.uptoBulk x.1 := by
  induction fuel with
  | zero => intro cs x h; simp [DataW.trod] at h
  | succ fuel ih =>
    intro cs x h
    obtain ⟨xs, n, hn, rfl, hl, hxl, hf⟩ := DataW.trod_struct Tryd.underlying43 h
    obtain rfl : fuel = n := by omega
    rw [cellsNode] at hl
    obtain ⟨c0, c1, c2, c3, rfl⟩ := list4 hl
    match xs, hxl with
    | [y0, y1, y2, y3], _ =>
      have h0 : DataW.trod enc Tryd.prog w base sp held fuel 5 (([c0, c1, c2, c3].drop 0).take (Tryd.prog.cellsOf 5)) = [y0, y1, y2, y3][0]? := hf 0 _ rfl
      have h1 : DataW.trod enc Tryd.prog w base sp held fuel 3 (([c0, c1, c2, c3].drop 1).take (Tryd.prog.cellsOf 3)) = [y0, y1, y2, y3][1]? := hf 1 _ rfl
      have h2 : DataW.trod enc Tryd.prog w base sp held fuel 9 (([c0, c1, c2, c3].drop 2).take (Tryd.prog.cellsOf 9)) = [y0, y1, y2, y3][2]? := hf 2 _ rfl
      have h3 : DataW.trod enc Tryd.prog w base sp held fuel 41 (([c0, c1, c2, c3].drop 3).take (Tryd.prog.cellsOf 41)) = [y0, y1, y2, y3][3]? := hf 3 _ rfl
      rw [cellsNode0] at h0
      rw [cellsNode1] at h1
      rw [cellsNode2] at h2
      rw [cellsNode3] at h3
      simp only [List.drop_zero, List.drop_succ_cons, List.take_succ_cons, List.take_zero, List.getElem?_cons_zero, List.getElem?_cons_succ] at h0 h1 h2 h3
      obtain ⟨k, hk, _, wk⟩ := DataW.trod_int Tryd.underlying5 h0
      obtain ⟨m, hm, _, wm⟩ := DataW.trod_int Tryd.underlying3 h1
      obtain ⟨s, hs, _, ws⟩ := DataW.trod_string Tryd.underlying9 h2
      cases hk; cases hm; cases hs
      have bk : 0 ≤ k ∧ k ≤ 255 := by simpa [Lit.wf, IntKind.min, IntKind.max, IntKind.signed, IntKind.bits] using wk
      have bm : -9223372036854775808 ≤ m ∧ m ≤ 9223372036854775807 := by simpa [Lit.wf, IntKind.min, IntKind.max, IntKind.signed, IntKind.bits] using wm
      have ws' : s.size ≤ 9223372036854775807 := le_max ws
      clear ws
      rcases DataW.trod_slice Tryd.underlying41 h3 with ⟨h4, _⟩ | ⟨a, len, cap, elems, rest, n', hn', h4, hy3, hb, hlc, hcm, hel, hel2, _, _⟩
      · cases h4
        refine ⟨Tree.leaf k m s, none, 0, rfl, Rep.mk ⟨bk, bm, ws', Nat.zero_le _⟩ (.inl rfl), ?_⟩
        have e : (Tree.leaf k m s).size = 1 := by rw [Tree.size_eq]; rfl
        rw [e]
        exact bulk_one _
      · cases h4
        have hcm' : cap ≤ 9223372036854775807 := le_max hcm
        clear hcm
        obtain rfl : fuel = n' + 1 := hn'
        have hspot : 0 < len → a.spot = none := by
          intro h0
          have hi2 := hel2 0 h0
          rw [Nat.zero_mul, cellsNode] at hi2
          obtain ⟨y, hy⟩ : ∃ y, elems[0]? = some y := ⟨_, List.getElem?_eq_getElem (by omega)⟩
          rw [hy] at hi2
          obtain ⟨cs', hc1, hc2⟩ := Option.bind_eq_some_iff.1 hi2
          obtain ⟨t, ai, ci, rfl, hr, hbk⟩ := ih _ _ (DataW.trod_succ _ _ _ _ hc2)
          obtain ⟨_, _, hcs⟩ := World.cells?_some hc1
          have e0 := hcs 0 (by omega)
          have h9 : (a.add 0).add 0 = a := by simp [Addr.add]
          rw [h9] at e0
          cases hq : a.spot with
          | none => rfl
          | some q =>
            unfold World.cell? at e0
            rw [hq] at e0
            split at e0 <;> simp at e0
        have each : ∀ i, ∃ (t : Tree), i < len → ∃ (ai : Option Addr) (ci : Nat), NodeAt w a.block (a.off + i * 4) t ai ci ∧ Rep w t ai ∧ ∀ y, elems[i]? = some y → t.size ≤ Rows.uptoBulk y.1 := by
          intro i
          by_cases hi : i < len
          · have hi2 := hel2 i hi
            rw [cellsNode] at hi2
            obtain ⟨y, hy⟩ : ∃ y, elems[i]? = some y := ⟨_, List.getElem?_eq_getElem (by omega)⟩
            rw [hy] at hi2
            obtain ⟨cs', hc1, hc2⟩ := Option.bind_eq_some_iff.1 hi2
            obtain ⟨t, ai, ci, rfl, hr, hbk⟩ := ih _ _ (DataW.trod_succ _ _ _ _ hc2)
            obtain ⟨_, _, hcs⟩ := World.cells?_some hc1
            obtain ⟨ab, ao, asp⟩ := a
            obtain rfl : asp = none := hspot (by omega)
            have hadd : ∀ d, ((⟨ab, ao, none⟩ : Addr).add (i * 4)).add d = ⟨ab, ao + i * 4 + d, none⟩ := by
              intro d
              unfold Addr.add
              by_cases h1 : i * 4 = 0 <;> by_cases h2 : d = 0 <;> simp [h1, h2]
              all_goals omega
            have e0 := hcs 0 (by omega)
            have e1 := hcs 1 (by omega)
            have e2 := hcs 2 (by omega)
            have e3 := hcs 3 (by omega)
            rw [hadd] at e0 e1 e2 e3
            exact ⟨t, fun _ => ⟨ai, ci, ⟨e0, e1, e2, e3⟩, hr, fun y' hy' => by rw [hy] at hy'; cases hy'; exact hbk⟩⟩
          · exact ⟨Tree.leaf 0 0 s, fun h => absurd h hi⟩
        obtain ⟨f, hf⟩ := Classical.axiomOfChoice each
        refine ⟨Tree.make k m s len f, some a, cap, rfl, Rep.mk ⟨bk, bm, ws', by show len ≤ _; omega⟩ ?_, ?_⟩
        rotate_left
        · have hsum := bulk_sum (elems.map (·.1)) (fun i => ((Tree.make k m s len f).kid i).size) (fun i hi => by
            rw [List.length_map] at hi
            obtain ⟨_, _, _, _, h3⟩ := hf i (by omega)
            rw [Tree.make_kid (show i < len by omega), List.getElem_map]
            exact h3 _ (List.getElem?_eq_getElem hi))
          rw [List.length_map, hel] at hsum
          have e : (Tree.make k m s len f).size = 1 + Tree.sumTo (fun i => ((Tree.make k m s len f).kid i).size) len := Tree.size_eq _
          rw [e]
          simp only [List.map_cons, List.map_nil, Rows.uptoBulk, Rows.uptoBulkAll]
          rw [hy3]
          simp only [Rows.uptoBulk]
          omega
        by_cases h0 : 0 < len
        · obtain ⟨ab, ao, asp⟩ := a
          obtain rfl : asp = none := hspot h0
          refine .inr ⟨ab, ao, rfl, fun i hi => ?_⟩
          obtain ⟨ai, ci, h1, h2, _⟩ := hf i hi
          exact ⟨ai, ci, by rw [Tree.make_kid (show i < len from hi)]; exact h1, by rw [Tree.make_kid (show i < len from hi)]; exact h2⟩
        · exact .inl (show len = 0 by omega)
theorem open_node_bulk {r : Reach} {b0 : Nat} {v : Value} {d : DataW H} {p : List MemPlace} (hv : Value.okWide Tryd.prog w r b0 43 v) (h : DataW.Trod enc Tryd.prog w base sp held 43 v d p) :
    ∃ (t : Tree) (a : Option Addr) (c : Nat), v = t.val a c ∧ Rep w t a ∧ t.size ≤ Rows.uptoBulk d := by
  obtain ⟨cs, rfl, hsz⟩ := okWide_struct Tryd.underlying43 hv
  obtain ⟨fuel, hf⟩ := h
  obtain ⟨t, a, c, hc, hr, hb⟩ := tree_bulk fuel _ _ hf
  refine ⟨t, a, c, ?_, hr, hb⟩
  have : cs = #[.int .u8 t.kind, .int .i64 t.num, .string t.name, .slice a t.len c] := by
    apply Array.toList_inj.1
    simpa [Value.cells] using hc
  rw [this]
end
end Go.Proofs.YtnegdmhmhdojbaaDoor
