/-
  What the rows' listed variable gives; a node that came in, opened.
-/
import Derived.Test.YtnegdmhmhdojbaaDoorTreeOpen
import Derived.Test.YtnegdmhmhdojbaaDoorLexFirst
import Derived.Lib.LaidTab
import Derived.FnData
namespace Go.Proofs.YtnegdmhmhdojbaaDoor
set_option linter.unusedVariables false
set_option linter.unusedSimpArgs false
open Go.ChangeShapes Go.WideShapes Go.ChangeAt Go.RowKit
set_option maxRecDepth 100000

/-- An array of strings that reads as a table holds the table's strings, cell for cell. -/
theorem strs_of_tab {H : Type} {enc : TypeId × Value → H} {P : Program} {w : World} {base : Nat} {sp : Nat → Bool} {held : Bool} {fuel : Nat} {t e : TypeId} {n : Nat} {cs : List Value} {zs : List (List UInt8)} {p : List MemPlace}
    (ht : P.underlying t = some (.array n e)) (he : P.underlying e = some .string) (hce : P.cellsOf e = 1) (hct : P.cellsOf t = n)
    (h : DataW.trod enc P w base sp held fuel t cs = some (.agg (zs.map fun z => .lit (.string z)), p)) :
    cs = zs.map fun z => .string ⟨z.toArray⟩ := by
  cases fuel with
  | zero => simp [DataW.trod] at h
  | succ fuel =>
    simp only [DataW.trod, ht, hce, hct] at h
    split at h
    · rename_i hl
      obtain ⟨xs, hm, hx⟩ := Option.map_eq_some_iff.1 h
      have hxs : xs.map (·.1) = zs.map fun z => (DataW.lit (.string z) : DataW H) := by
        have := congrArg Prod.fst hx
        simpa using this
      have hxl : xs.length = n := by simpa using Lib.mapM_length hm
      have hzl : zs.length = n := by
        have := congrArg List.length hxs
        simp at this
        omega
      have hcl : cs.length = n := by simpa using hl
      refine List.ext_getElem? fun i => ?_
      by_cases hi : i < n
      · obtain ⟨b, hb, hf⟩ := Lib.mapM_at hm i i (by simp [hi])
        obtain ⟨s, hs, rfl, _⟩ := DataW.trod_string he hf
        have h2 : (xs.map (·.1))[i]? = some (DataW.lit (.string s.data.toList) : DataW H) := by simp [hb]
        rw [hxs] at h2
        obtain ⟨z, hz, hz2⟩ : ∃ z, zs[i]? = some z ∧ z = s.data.toList := by
          simp at h2
          exact ⟨_, h2, rfl⟩
        subst hz2
        have := congrArg (·[0]?) hs
        simp [List.getElem?_drop] at this
        simp [this, hz]
      · rw [List.getElem?_eq_none (by omega), List.getElem?_eq_none (by simp; omega)]
    · cases h

theorem gSigns : Tryd.prog.globalNamed "ontime/lexer.signs" = some 0 := by kernel_rfl
theorem gSignsType : (Tryd.prog.globals[0]?).map (·.type) = some 109 := by kernel_rfl
theorem cellsSigns : Tryd.prog.cellsOf 109 = 28 := by kernel_rfl
theorem SG_eq : (signTab.map fun z => z.data.toList).map (fun z => Value.string ⟨z.toArray⟩) = SG.toList := by kernel_rfl
theorem signs_of_laid {W : World} (h : laidMetH Tryd.prog [("ontime/lexer.signs", Rows.laid_ontime_lexer_signs)] W) : SignsIn W := by
  obtain ⟨ps, ⟨g', t', cs, fuel, p, q, hg', ht', hvar, hd, _, _⟩, _⟩ := (show laidMet Tryd.prog [("ontime/lexer.signs", Rows.laid_ontime_lexer_signs)] W from h)
  obtain rfl := Option.some.inj (gSigns.symm.trans hg')
  obtain rfl := Option.some.inj (gSignsType.symm.trans ht')
  have hd' : DataW.trod _ Tryd.prog W _ _ _ fuel 109 cs.toList = some (.agg ((signTab.map fun z => z.data.toList).map fun z => .lit (.string z)), p) := hd
  have hcs := strs_of_tab Tryd.underlying109 Tryd.underlying9 cellsNode2 cellsSigns hd'
  rw [SG_eq] at hcs
  have hcs' : cs = SG := Array.toList_inj.1 hcs
  subst hcs'
  simp only [World.var?, gSigns, Option.bind_some] at hvar
  split at hvar
  · rename_i c t f hh
    cases hvar
    exact ⟨_, _, hh⟩
  · cases hvar

section
variable {H : Type} {enc : TypeId × Value → H} {w : World} {base : Nat} {sp : Nat → Bool} {held : Bool}
theorem open_node {r : Reach} {b0 : Nat} {v : Value} {d : DataW H} {p : List MemPlace} (hv : Value.okWide Tryd.prog w r b0 43 v) (h : DataW.Trod enc Tryd.prog w base sp held 43 v d p) :
    ∃ (t : Tree) (a : Option Addr) (c : Nat), v = t.val a c ∧ Rep w t a := by
  obtain ⟨cs, rfl, hsz⟩ := okWide_struct Tryd.underlying43 hv
  obtain ⟨fuel, hf⟩ := h
  obtain ⟨t, a, c, hc, hr⟩ := tree_open fuel _ _ hf
  refine ⟨t, a, c, ?_, hr⟩
  have : cs = #[.int .u8 t.kind, .int .i64 t.num, .string t.name, .slice a t.len c] := by
    apply Array.toList_inj.1
    simpa [Value.cells] using hc
  rw [this]
end
end Go.Proofs.YtnegdmhmhdojbaaDoor
