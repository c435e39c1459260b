/-
  Mg52: several texts in one (PrgOpen, Signs).
-/
import Derived.Test.YtkpdngfkdmllkaaDoorMg51
import Derived.Test.YtkpdngfkdmllkaaDoorMg19
import Derived.Test.YtkpdngfkdmllkaaDoorLexFirst
import Derived.Lib.LaidTab
import Derived.FnData
/-
  A program that reads as data lies in memory as a program.
-/
namespace Go.Proofs.YtkpdngfkdmllkaaDoor
set_option linter.unusedVariables false
set_option linter.unusedSimpArgs false
open Go.ChangeShapes Go.WideShapes Go.ChangeAt Go.RowKit
set_option maxRecDepth 100000

theorem cellsArr : Tryd.prog.cellsOf 40 = 2 := by kernel_rfl
theorem cellsTsk : Tryd.prog.cellsOf 37 = 8 := by kernel_rfl
theorem cellsPrg : Tryd.prog.cellsOf 25 = 2 := by kernel_rfl
theorem cellsArrs : Tryd.prog.cellsOf 22 = 1 := by kernel_rfl
theorem cellsTsks : Tryd.prog.cellsOf 23 = 1 := by kernel_rfl
theorem cellsStrs : Tryd.prog.cellsOf 32 = 1 := by kernel_rfl

section
variable {H : Type} {enc : TypeId × Value → H} {w : World} {base : Nat} {sp : Nat → Bool} {held : Bool}
/-- a row, opened element by element -/
theorem rows_open {t e : TypeId} {size fuel : Nat} {cs : List Value} {x : DataW H × List MemPlace} (ht : Tryd.prog.underlying t = some (.slice e)) (hc : Tryd.prog.cellsOf e = size) (h0 : 0 < size)
    (h : DataW.trod enc Tryd.prog w base sp held fuel t cs = some x) :
    ∃ (a : Option Addr) (len cap n : Nat), cs = [.slice a len cap] ∧ len ≤ 9223372036854775807 ∧ ∀ i, i < len → ∃ ab ao, a = some ⟨ab, ao, none⟩ ∧ ∃ (cs' : List Value) (y : DataW H × List MemPlace),
      (∀ o, o < size → w.cell? ⟨ab, ao + i * size + o, none⟩ = cs'[o]?) ∧ DataW.trod enc Tryd.prog w base sp held n e cs' = some y := by
  rcases DataW.trod_slice ht h with ⟨h4, _⟩ | ⟨a, len, cap, elems, rest, n', _, h4, _, _, hlc, hcm, hel, hel2, _, _⟩
  · exact ⟨none, 0, 0, 0, h4, by omega, fun i hi => by omega⟩
  · have hcm' := le_max hcm
    refine ⟨some a, len, cap, n', h4, by omega, fun i hi => ?_⟩
    have hspot : a.spot = none := by
      have hi2 := hel2 0 (by omega)
      rw [Nat.zero_mul, hc] at hi2
      obtain ⟨y, hy⟩ : ∃ y, elems[0]? = some y := ⟨_, List.getElem?_eq_getElem (by omega)⟩
      rw [hy] at hi2
      obtain ⟨cs', hc1, hc2⟩ := Option.bind_eq_some_iff.1 hi2
      obtain ⟨_, hl, hcs⟩ := World.cells?_some hc1
      have e0 := hcs 0 h0
      rw [show (a.add 0).add 0 = a by simp [Addr.add], List.getElem?_eq_getElem (by omega)] at e0
      cases hq : a.spot with
      | none => rfl
      | some q =>
        unfold World.cell? at e0
        rw [hq] at e0
        split at e0 <;> simp at e0
    obtain ⟨ab, ao, asp⟩ := a
    obtain rfl : asp = none := hspot
    have hi2 := hel2 i hi
    rw [hc] at hi2
    obtain ⟨y, hy⟩ : ∃ y, elems[i]? = some y := ⟨_, List.getElem?_eq_getElem (by omega)⟩
    rw [hy] at hi2
    obtain ⟨cs', hc1, hc2⟩ := Option.bind_eq_some_iff.1 hi2
    obtain ⟨_, _, hcs⟩ := World.cells?_some hc1
    refine ⟨ab, ao, rfl, cs', y, fun o ho => ?_, hc2⟩
    have := hcs o ho
    have hadd : ((⟨ab, ao, none⟩ : Addr).add (i * size)).add o = ⟨ab, ao + i * size + o, none⟩ := by
      unfold Addr.add
      by_cases h1 : i * size = 0 <;> by_cases h2 : o = 0 <;> simp [h1, h2]
      all_goals omega
    rw [hadd] at this
    exact this

theorem wf64 {n : Int} (h : (Lit.int .i64 n).wf = true) : isI64 n := by
  have : -9223372036854775808 ≤ n ∧ n ≤ 9223372036854775807 := by simpa [Lit.wf, IntKind.min, IntKind.max, IntKind.signed, IntKind.bits] using h
  exact this
/-- a list out of its elements -/
theorem list_of {α : Type} {d : α} {n : Nat} {P : Nat → α → Prop} (h : ∀ i, i < n → ∃ x, P i x) : ∃ l : List α, l.length = n ∧ ∀ i, i < n → P i (l.getD i d) := by
  have h' : ∀ i, ∃ x, i < n → P i x := fun i => by
    by_cases hi : i < n
    · obtain ⟨x, hx⟩ := h i hi; exact ⟨x, fun _ => hx⟩
    · exact ⟨d, fun h => absurd h hi⟩
  obtain ⟨f, hf⟩ := Classical.axiomOfChoice h'
  refine ⟨(List.range n).map f, by simp, fun i hi => ?_⟩
  have : ((List.range n).map f).getD i d = f i := by simp [hi]
  rw [this]; exact hf i hi

theorem arr_open {fuel : Nat} {cs : List Value} {x : DataW H × List MemPlace} (h : DataW.trod enc Tryd.prog w base sp held fuel 40 cs = some x) :
    ∃ y : Arr, cs = [.string y.name, .int .i64 y.len] ∧ y.name.size ≤ 9223372036854775807 ∧ isI64 y.len := by
  obtain ⟨xs, n, _, rfl, hl, hxl, hf⟩ := DataW.trod_struct Tryd.underlying40 h
  rw [cellsArr] at hl
  match cs, hl with
  | [c0, c1], _ =>
    match xs, hxl with
    | [y0, y1], _ =>
      have h0 : DataW.trod enc Tryd.prog w base sp held n 9 (([c0, c1].drop 0).take (Tryd.prog.cellsOf 9)) = [y0, y1][0]? := hf 0 _ rfl
      have h1 : DataW.trod enc Tryd.prog w base sp held n 3 (([c0, c1].drop 1).take (Tryd.prog.cellsOf 3)) = [y0, y1][1]? := hf 1 _ rfl
      rw [cellsNode2] at h0
      rw [cellsNode1] at h1
      simp only [List.drop_zero, List.drop_succ_cons, List.take_succ_cons, List.take_zero, List.getElem?_cons_zero, List.getElem?_cons_succ] at h0 h1
      obtain ⟨s, hs, _, ws⟩ := DataW.trod_string Tryd.underlying9 h0
      obtain ⟨m, hm, _, wm⟩ := DataW.trod_int Tryd.underlying3 h1
      cases hs; cases hm
      exact ⟨⟨s, m⟩, rfl, le_max ws, wf64 wm⟩
theorem arrs_open {fuel : Nat} {cs : List Value} {x : DataW H × List MemPlace} (h : DataW.trod enc Tryd.prog w base sp held fuel 22 cs = some x) :
    ∃ (a : Option Addr) (l : List Arr) (c : Nat), cs = [.slice a l.length c] ∧ ArrsAt w a l := by
  obtain ⟨a, len, cap, n, rfl, hlen, hk⟩ := rows_open Tryd.underlying22 cellsArr (by omega) h
  obtain ⟨l, rfl, hl⟩ := list_of (d := Arr.none) (n := len) (P := fun i y => ∃ b off, a = some ⟨b, off, none⟩ ∧ ArrAt w b (off + i * 2) y) (fun i hi => by
    obtain ⟨ab, ao, ha, cs', y, hcell, ht⟩ := hk i hi
    obtain ⟨z, rfl, z1, z2⟩ := arr_open ht
    exact ⟨z, ab, ao, ha, hcell 0 (by omega), hcell 1 (by omega), z1, z2⟩)
  exact ⟨a, l, cap, rfl, hlen, hl⟩
theorem strs_open {fuel : Nat} {cs : List Value} {x : DataW H × List MemPlace} (h : DataW.trod enc Tryd.prog w base sp held fuel 32 cs = some x) :
    ∃ (a : Option Addr) (l : List ByteArray) (c : Nat), cs = [.slice a l.length c] ∧ StrsAt w a l := by
  obtain ⟨a, len, cap, n, rfl, hlen, hk⟩ := rows_open Tryd.underlying32 cellsNode2 (by omega) h
  obtain ⟨l, rfl, hl⟩ := list_of (d := (⟨#[]⟩ : ByteArray)) (n := len) (P := fun i y => ∃ b off, a = some ⟨b, off, none⟩ ∧ w.cell? ⟨b, off + i, none⟩ = some (.string y) ∧ y.size ≤ 9223372036854775807) (fun i hi => by
    obtain ⟨ab, ao, ha, cs', y, hcell, ht⟩ := hk i hi
    obtain ⟨s, rfl, _, ws⟩ := DataW.trod_string Tryd.underlying9 ht
    have h0 := hcell 0 (by omega)
    rw [Nat.mul_one, Nat.add_zero] at h0
    exact ⟨s, ab, ao, ha, h0, le_max ws⟩)
  exact ⟨a, l, cap, rfl, hlen, hl⟩
theorem arr2 {cs : Array Value} (h : cs.size = 2) : ∃ c0 c1, cs = #[c0, c1] := by
  obtain ⟨l⟩ := cs
  match l, h with
  | [a, b], _ => exact ⟨a, b, rfl⟩
theorem list8 {l : List Value} (h : l.length = 8) : ∃ a b c d e f g i, l = [a, b, c, d, e, f, g, i] := by
  match l, h with
  | [a, b, c, d, e, f, g, i], _ => exact ⟨a, b, c, d, e, f, g, i, rfl⟩
theorem tsk_open {fuel : Nat} {cs : List Value} {x : DataW H × List MemPlace} (h : DataW.trod enc Tryd.prog w base sp held fuel 37 cs = some x) :
    ∃ (t : Tsk) (p : TskPlace), cs = (t.cells p).toList ∧ TskIn w t p := by
  obtain ⟨xs, n, _, rfl, hl, hxl, hf⟩ := DataW.trod_struct Tryd.underlying37 h
  rw [cellsTsk] at hl
  obtain ⟨c0, c1, c2, c3, c4, c5, c6, c7, rfl⟩ := list8 hl
  match xs, hxl with
  | [y0, y1, y2, y3, y4], _ =>
    have h0 : DataW.trod enc Tryd.prog w base sp held n 9 (([c0, c1, c2, c3, c4, c5, c6, c7].drop 0).take (Tryd.prog.cellsOf 9)) = [y0, y1, y2, y3, y4][0]? := hf 0 _ rfl
    have h1 : DataW.trod enc Tryd.prog w base sp held n 3 (([c0, c1, c2, c3, c4, c5, c6, c7].drop 1).take (Tryd.prog.cellsOf 3)) = [y0, y1, y2, y3, y4][1]? := hf 1 _ rfl
    have h2 : DataW.trod enc Tryd.prog w base sp held n 32 (([c0, c1, c2, c3, c4, c5, c6, c7].drop 2).take (Tryd.prog.cellsOf 32)) = [y0, y1, y2, y3, y4][2]? := hf 2 _ rfl
    have h3 : DataW.trod enc Tryd.prog w base sp held n 22 (([c0, c1, c2, c3, c4, c5, c6, c7].drop 3).take (Tryd.prog.cellsOf 22)) = [y0, y1, y2, y3, y4][3]? := hf 3 _ rfl
    have h4 : DataW.trod enc Tryd.prog w base sp held n 35 (([c0, c1, c2, c3, c4, c5, c6, c7].drop 4).take (Tryd.prog.cellsOf 35)) = [y0, y1, y2, y3, y4][4]? := hf 4 _ rfl
    rw [cellsNode2] at h0
    rw [cellsNode1] at h1
    rw [cellsStrs] at h2
    rw [cellsArrs] at h3
    rw [cellsNode] at h4
    simp only [List.drop_zero, List.drop_succ_cons, List.take_succ_cons, List.take_zero, List.take_nil, List.getElem?_cons_zero, List.getElem?_cons_succ] at h0 h1 h2 h3 h4
    obtain ⟨s, hs, _, ws⟩ := DataW.trod_string Tryd.underlying9 h0
    obtain ⟨m, hm, _, wm⟩ := DataW.trod_int Tryd.underlying3 h1
    obtain ⟨va, vl, vc, hv, hvs⟩ := strs_open h2
    obtain ⟨aa, al, ac, hav, has⟩ := arrs_open h3
    obtain ⟨b, ka, kc, hb, hbr⟩ := tree_open _ _ _ h4
    cases hs; cases hm; cases hv; cases hav; cases hb
    exact ⟨⟨s, m, vl, al, b⟩, ⟨va, vc, aa, ac, ka, kc⟩, rfl, ⟨le_max ws, wf64 wm, hvs, has, hbr⟩⟩
theorem tsks_open {fuel : Nat} {cs : List Value} {x : DataW H × List MemPlace} (h : DataW.trod enc Tryd.prog w base sp held fuel 23 cs = some x) :
    ∃ (a : Option Addr) (l : List Tsk) (c : Nat), cs = [.slice a l.length c] ∧ TsksAt w a l := by
  obtain ⟨a, len, cap, n, rfl, hlen, hk⟩ := rows_open Tryd.underlying23 cellsTsk (by omega) h
  obtain ⟨l, rfl, hl⟩ := list_of (d := Tsk.none) (n := len) (P := fun i t => ∃ b off p, a = some ⟨b, off, none⟩ ∧ (∀ o, o < 8 → w.cell? ⟨b, off + i * 8 + o, none⟩ = (t.cells p)[o]?) ∧ TskIn w t p) (fun i hi => by
    obtain ⟨ab, ao, ha, cs', y, hcell, ht⟩ := hk i hi
    obtain ⟨t, p, rfl, hin⟩ := tsk_open ht
    exact ⟨t, ab, ao, p, ha, fun o ho => by rw [hcell o ho, Array.getElem?_toList], hin⟩)
  exact ⟨a, l, cap, rfl, hlen, hl⟩
theorem open_prog {r : Reach} {b0 : Nat} {v : Value} {d : DataW H} {p : List MemPlace} (hv : Value.okWide Tryd.prog w r b0 25 v) (h : DataW.Trod enc Tryd.prog w base sp held 25 v d p) :
    ∃ (q : Prg) (sa : Option Addr) (sc : Nat) (ta : Option Addr) (tc : Nat), v = q.val sa sc ta tc ∧ PrgAt w q sa ta := by
  obtain ⟨cs, rfl, hsz⟩ := okWide_struct Tryd.underlying25 hv
  obtain ⟨fuel, hf⟩ := h
  obtain ⟨xs, n, _, _, hl, hxl, hff⟩ := DataW.trod_struct Tryd.underlying25 hf
  rw [cellsPrg] at hl hsz
  obtain ⟨c0, c1, rfl⟩ := arr2 hsz
  match xs, hxl with
  | [y0, y1], _ =>
    have h0 : DataW.trod enc Tryd.prog w base sp held n 22 (((Value.agg #[c0, c1]).cells.toList.drop 0).take (Tryd.prog.cellsOf 22)) = [y0, y1][0]? := hff 0 _ rfl
    have h1 : DataW.trod enc Tryd.prog w base sp held n 23 (((Value.agg #[c0, c1]).cells.toList.drop 1).take (Tryd.prog.cellsOf 23)) = [y0, y1][1]? := hff 1 _ rfl
    rw [cellsArrs] at h0
    rw [cellsTsks] at h1
    simp only [Value.cells, List.drop_zero, List.drop_succ_cons, List.take_succ_cons, List.take_zero, List.getElem?_cons_zero, List.getElem?_cons_succ] at h0 h1
    obtain ⟨sa, sl, sc, hs, hsa⟩ := arrs_open h0
    obtain ⟨ta, tl, tc, ht, hta⟩ := tsks_open h1
    cases hs; cases ht
    exact ⟨⟨sl, tl⟩, sa, sc, ta, tc, rfl, hsa, hta⟩
/-- with the room of its rows -/
theorem open_prog_cap {r : Reach} {b0 : Nat} {v : Value} {d : DataW H} {p : List MemPlace} (hv : Value.okWide Tryd.prog w r b0 25 v) (h : DataW.Trod enc Tryd.prog w base sp held 25 v d p) :
    ∃ (q : Prg) (sa : Option Addr) (sc : Nat) (ta : Option Addr) (tc : Nat), v = q.val sa sc ta tc ∧ PrgAt w q sa ta ∧ q.tasks.length ≤ tc := by
  obtain ⟨q, sa, sc, ta, tc, rfl, hr⟩ := open_prog hv h
  refine ⟨q, sa, sc, ta, tc, rfl, hr, ?_⟩
  obtain ⟨fuel, hf⟩ := h
  obtain ⟨xs, n, _, _, hl, hxl, hff⟩ := DataW.trod_struct Tryd.underlying25 hf
  match xs, hxl with
  | [y0, y1], _ =>
    have h1 : DataW.trod enc Tryd.prog w base sp held n 23 (((Value.agg #[.slice sa q.shared.length sc, .slice ta q.tasks.length tc]).cells.toList.drop 1).take (Tryd.prog.cellsOf 23)) = [y0, y1][1]? := hff 1 _ rfl
    rw [cellsTsks] at h1
    simp only [Value.cells, List.drop_zero, List.drop_succ_cons, List.take_succ_cons, List.take_zero, List.getElem?_cons_zero, List.getElem?_cons_succ] at h1
    rcases DataW.trod_slice Tryd.underlying23 h1 with ⟨h4, _⟩ | ⟨a, len, cap, elems, rest, n', _, h4, _, _, hlc, _⟩
    · simp only [List.cons.injEq, Value.slice.injEq, and_true] at h4
      omega
    · simp only [List.cons.injEq, Value.slice.injEq, and_true] at h4
      omega
end
end Go.Proofs.YtkpdngfkdmllkaaDoor

/-
  What the rows' listed variable gives; a node that came in, opened.
-/
namespace Go.Proofs.YtkpdngfkdmllkaaDoor
set_option linter.unusedVariables false
set_option linter.unusedSimpArgs false
open Go.ChangeShapes Go.WideShapes Go.ChangeAt Go.RowKit
set_option maxRecDepth 100000

/-- An array of strings that reads as a table holds the table's strings, cell for cell. -/
theorem strs_of_tab {H : Type} {enc : TypeId × Value → H} {P : Program} {w : World} {base : Nat} {sp : Nat → Bool} {held : Bool} {fuel : Nat} {t e : TypeId} {n : Nat} {cs : List Value} {zs : List (List UInt8)} {p : List MemPlace}
    (ht : P.underlying t = some (.array n e)) (he : P.underlying e = some .string) (hce : P.cellsOf e = 1) (hct : P.cellsOf t = n)
    (h : DataW.trod enc P w base sp held fuel t cs = some (.agg (zs.map fun z => .lit (.string z)), p)) :
    cs = zs.map fun z => .string ⟨z.toArray⟩ := by
  cases fuel with
  | zero => simp [DataW.trod] at h
  | succ fuel =>
    simp only [DataW.trod, ht, hce, hct] at h
    split at h
    · rename_i hl
      obtain ⟨xs, hm, hx⟩ := Option.map_eq_some_iff.1 h
      have hxs : xs.map (·.1) = zs.map fun z => (DataW.lit (.string z) : DataW H) := by
        have := congrArg Prod.fst hx
        simpa using this
      have hxl : xs.length = n := by simpa using Lib.mapM_length hm
      have hzl : zs.length = n := by
        have := congrArg List.length hxs
        simp at this
        omega
      have hcl : cs.length = n := by simpa using hl
      refine List.ext_getElem? fun i => ?_
      by_cases hi : i < n
      · obtain ⟨b, hb, hf⟩ := Lib.mapM_at hm i i (by simp [hi])
        obtain ⟨s, hs, rfl, _⟩ := DataW.trod_string he hf
        have h2 : (xs.map (·.1))[i]? = some (DataW.lit (.string s.data.toList) : DataW H) := by simp [hb]
        rw [hxs] at h2
        obtain ⟨z, hz, hz2⟩ : ∃ z, zs[i]? = some z ∧ z = s.data.toList := by
          simp at h2
          exact ⟨_, h2, rfl⟩
        subst hz2
        have := congrArg (·[0]?) hs
        simp [List.getElem?_drop] at this
        simp [this, hz]
      · rw [List.getElem?_eq_none (by omega), List.getElem?_eq_none (by simp; omega)]
    · cases h

theorem gSigns : Tryd.prog.globalNamed "ontime/lexer.signs" = some 0 := by kernel_rfl
theorem gSignsType : (Tryd.prog.globals[0]?).map (·.type) = some 147 := by kernel_rfl
theorem cellsSigns : Tryd.prog.cellsOf 147 = 28 := by kernel_rfl
theorem SG_eq : (signTab.map fun z => z.data.toList).map (fun z => Value.string ⟨z.toArray⟩) = SG.toList := by kernel_rfl
theorem signs_of_laid {W : World} (h : laidMetH Tryd.prog [("ontime/lexer.signs", Rows.laid_ontime_lexer_signs)] W) : SignsIn W := by
  obtain ⟨ps, ⟨g', t', cs, fuel, p, q, hg', ht', hvar, hd, _, _⟩, _⟩ := (show laidMet Tryd.prog [("ontime/lexer.signs", Rows.laid_ontime_lexer_signs)] W from h)
  obtain rfl := Option.some.inj (gSigns.symm.trans hg')
  obtain rfl := Option.some.inj (gSignsType.symm.trans ht')
  have hd' : DataW.trod _ Tryd.prog W _ _ _ fuel 147 cs.toList = some (.agg ((signTab.map fun z => z.data.toList).map fun z => .lit (.string z)), p) := hd
  have hcs := strs_of_tab Tryd.underlying147 Tryd.underlying9 cellsNode2 cellsSigns hd'
  rw [SG_eq] at hcs
  have hcs' : cs = SG := Array.toList_inj.1 hcs
  subst hcs'
  simp only [World.var?, gSigns, Option.bind_some] at hvar
  split at hvar
  · rename_i c t f hh
    cases hvar
    exact ⟨_, _, hh⟩
  · cases hvar

section
variable {H : Type} {enc : TypeId × Value → H} {w : World} {base : Nat} {sp : Nat → Bool} {held : Bool}
theorem open_node {r : Reach} {b0 : Nat} {v : Value} {d : DataW H} {p : List MemPlace} (hv : Value.okWide Tryd.prog w r b0 35 v) (h : DataW.Trod enc Tryd.prog w base sp held 35 v d p) :
    ∃ (t : Tree) (a : Option Addr) (c : Nat), v = t.val a c ∧ Rep w t a := by
  obtain ⟨cs, rfl, hsz⟩ := okWide_struct Tryd.underlying35 hv
  obtain ⟨fuel, hf⟩ := h
  obtain ⟨t, a, c, hc, hr⟩ := tree_open fuel _ _ hf
  refine ⟨t, a, c, ?_, hr⟩
  have : cs = #[.int .u8 t.kind, .int .i64 t.num, .string t.name, .slice a t.len c] := by
    apply Array.toList_inj.1
    simpa [Value.cells] using hc
  rw [this]
end
end Go.Proofs.YtkpdngfkdmllkaaDoor
