/-
  A memory that reads as data lies in memory as one.
-/
import Derived.Test.YtgochgcchkdlmaaDoorRows
import Derived.Test.YtgochgcchkdlmaaDoorMemSet
import Derived.Test.YtgochgcchkdlmaaDoorInMems
import Derived.Test.YtgochgcchkdlmaaDoorOpens
import Derived.ProofKit
import Derived.OpenShut
namespace Go.Proofs.YtgochgcchkdlmaaDoor
set_option linter.unusedVariables false
set_option linter.unusedSimpArgs false
open Go.ChangeShapes Go.WideShapes Go.ChangeAt Go.RowKit
set_option maxRecDepth 100000

theorem cells4 : Tryd.prog.cellsOf 21 = 1 := by kernel_rfl
theorem cells5 : Tryd.prog.cellsOf 30 = 1 := by kernel_rfl
theorem cells55 : Tryd.prog.cellsOf 27 = 1 := by kernel_rfl
section
variable {H : Type} {enc : TypeId × Value → H} {w : World} {base : Nat} {sp : Nat → Bool} {held : Bool}
theorem rows_nil {t e : TypeId} {size fuel : Nat} {cs : List Value} {x : DataW H × List MemPlace} (ht : Tryd.prog.underlying t = some (.slice e)) (hc : Tryd.prog.cellsOf e = size) (h0 : 0 < size)
    (h : DataW.trod enc Tryd.prog w base sp held fuel t cs = some x) :
    ∃ (a : Option Addr) (len cap n : Nat), cs = [.slice a len cap] ∧ len ≤ 9223372036854775807 ∧ (a = none → cap = 0) ∧ ∀ i, i < len → ∃ ab ao, a = some ⟨ab, ao, none⟩ ∧ ∃ (cs' : List Value) (y : DataW H × List MemPlace),
      (∀ o, o < size → w.cell? ⟨ab, ao + i * size + o, none⟩ = cs'[o]?) ∧ DataW.trod enc Tryd.prog w base sp held n e cs' = some y := by
  rcases DataW.trod_slice ht h with ⟨h4, _⟩ | ⟨a, len, cap, elems, rest, n', _, h4, _, _, hlc, hcm, hel, hel2, _, _⟩
  · exact ⟨none, 0, 0, 0, h4, by omega, fun _ => rfl, fun i hi => by omega⟩
  · have hcm' := le_max hcm
    refine ⟨some a, len, cap, n', h4, by omega, fun h => (by cases h), fun i hi => ?_⟩
    have hspot : a.spot = none := by
      have hi2 := hel2 0 (by omega)
      rw [Nat.zero_mul, hc] at hi2
      obtain ⟨y, hy⟩ : ∃ y, elems[0]? = some y := ⟨_, List.getElem?_eq_getElem (by omega)⟩
      rw [hy] at hi2
      obtain ⟨cs', hc1, hc2⟩ := Option.bind_eq_some_iff.1 hi2
      obtain ⟨_, hl, hcs⟩ := World.cells?_some hc1
      have e0 := hcs 0 h0
      rw [show (a.add 0).add 0 = a by simp [Addr.add], List.getElem?_eq_getElem (by omega)] at e0
      cases hq : a.spot with
      | none => rfl
      | some q =>
        unfold World.cell? at e0
        rw [hq] at e0
        split at e0 <;> simp at e0
    obtain ⟨ab, ao, asp⟩ := a
    obtain rfl : asp = none := hspot
    have hi2 := hel2 i hi
    rw [hc] at hi2
    obtain ⟨y, hy⟩ : ∃ y, elems[i]? = some y := ⟨_, List.getElem?_eq_getElem (by omega)⟩
    rw [hy] at hi2
    obtain ⟨cs', hc1, hc2⟩ := Option.bind_eq_some_iff.1 hi2
    obtain ⟨_, _, hcs⟩ := World.cells?_some hc1
    refine ⟨ab, ao, rfl, cs', y, fun o ho => ?_, hc2⟩
    have := hcs o ho
    have hadd : ((⟨ab, ao, none⟩ : Addr).add (i * size)).add o = ⟨ab, ao + i * size + o, none⟩ := by
      unfold Addr.add
      by_cases h1 : i * size = 0 <;> by_cases h2 : o = 0 <;> simp [h1, h2]
      all_goals omega
    rw [hadd] at this
    exact this
theorem row_build {α : Type} {size len : Nat} {a : Option Addr} {P : Nat → Nat → α → Prop} (h : ∀ i, i < len → ∃ ab ao, a = some ⟨ab, ao, none⟩ ∧ ∃ x, P ab (ao + i * size) x) :
    ∃ l : List α, l.length = len ∧ (l.length = 0 ∨ ∃ b off, a = some ⟨b, off, none⟩ ∧ ∀ (k : Nat) (x : α), l[k]? = some x → P b (off + k * size) x) ∧ ∀ x ∈ l, ∃ b o, P b o x := by
  by_cases h0 : len = 0
  · exact ⟨[], by simp [h0], .inl rfl, fun x hx => by cases hx⟩
  · obtain ⟨b, off, ha, _⟩ := h 0 (by omega)
    have h' : ∀ i : Fin len, ∃ x, P b (off + i.1 * size) x := fun i => by
      obtain ⟨b', off', ha', x, hx⟩ := h i.1 i.2
      rw [ha] at ha'
      injection ha' with e
      injection e with e1 e2
      subst e1 e2
      exact ⟨x, hx⟩
    obtain ⟨g, hg⟩ := Classical.axiomOfChoice h'
    have key : ∀ (k : Nat) (x : α), (List.ofFn g)[k]? = some x → P b (off + k * size) x := by
      intro k x hx
      rw [List.getElem?_ofFn] at hx
      split at hx
      · rename_i hk
        injection hx with hx
        rw [← hx]
        exact hg ⟨k, hk⟩
      · cases hx
    refine ⟨List.ofFn g, by simp, .inr ⟨b, off, ha, key⟩, fun x hx => ?_⟩
    obtain ⟨k, hk⟩ := List.getElem?_of_mem hx
    exact ⟨b, _, key k x hk⟩
theorem words_open {fuel : Nat} {cs : List Value} {x : DataW H × List MemPlace} (h : DataW.trod enc Tryd.prog w base sp held fuel 30 cs = some x) :
    ∃ (a : Option Addr) (l : List Int) (c : Nat), cs = [.slice a l.length c] ∧ (a = none → c = 0) ∧ WordsAt w a l := by
  obtain ⟨a, len, cap, n, rfl, hlen, hnil, hk⟩ := rows_nil Tryd.underlying30 cells4 (by omega) h
  obtain ⟨l, rfl, h1, h2⟩ := row_build (a := a) (len := len) (size := 1) (P := fun b o (y : Int) => w.cell? ⟨b, o, none⟩ = some (.int .i32 y) ∧ Wd.W y) (fun i hi => by
    obtain ⟨ab, ao, ha, cs', y, hcell, ht⟩ := hk i hi
    obtain ⟨m, rfl, _, wm⟩ := DataW.trod_int Tryd.underlying21 ht
    exact ⟨ab, ao, ha, m, hcell 0 (by omega), Wd.W_wf wm⟩)
  refine ⟨a, l, cap, rfl, hnil, hlen, fun x hx => by obtain ⟨_, _, _, hw⟩ := h2 x hx; exact hw, ?_⟩
  rcases h1 with h1 | ⟨b, off, ha, hc⟩
  · exact .inl h1
  · exact .inr ⟨b, off, ha, fun k x hx => by have := (hc k x hx).1; rwa [Nat.mul_one] at this⟩
theorem cont_open {fuel : Nat} {cs : List Value} {x : DataW H × List MemPlace} (h : DataW.trod enc Tryd.prog w base sp held fuel 27 cs = some x) :
    ∃ (a : Option Addr) (l : List (List Int)) (c : Nat), cs = [.slice a l.length c] ∧ (a = none → c = 0) ∧ ContAt w a l := by
  obtain ⟨a, len, cap, n, rfl, hlen, hnil, hk⟩ := rows_nil Tryd.underlying27 cells5 (by omega) h
  obtain ⟨l, rfl, h1, h2⟩ := row_build (a := a) (len := len) (size := 1) (P := fun b o (y : List Int) => ∃ ra rc, w.cell? ⟨b, o, none⟩ = some (.slice ra y.length rc) ∧ (ra = none → rc = 0) ∧ WordsAt w ra y) (fun i hi => by
    obtain ⟨ab, ao, ha, cs', y, hcell, ht⟩ := hk i hi
    obtain ⟨ra, r, rc, rfl, hn, hw⟩ := words_open ht
    exact ⟨ab, ao, ha, r, ra, rc, hcell 0 (by omega), hn, hw⟩)
  refine ⟨a, l, cap, rfl, hnil, hlen, ?_⟩
  rcases h1 with h1 | ⟨b, off, ha, hc⟩
  · exact .inl h1
  · exact .inr ⟨b, off, ha, fun k x hx => by have := hc k x hx; rwa [Nat.mul_one] at this⟩
theorem cont3_open {fuel : Nat} {cs : List Value} {x : DataW H × List MemPlace} (h : DataW.trod enc Tryd.prog w base sp held fuel 26 cs = some x) :
    ∃ (a : Option Addr) (l : List (List (List Int))) (c : Nat), cs = [.slice a l.length c] ∧ (a = none → c = 0) ∧ Cont3At w a l := by
  obtain ⟨a, len, cap, n, rfl, hlen, hnil, hk⟩ := rows_nil Tryd.underlying26 cells55 (by omega) h
  obtain ⟨l, rfl, h1, h2⟩ := row_build (a := a) (len := len) (size := 1) (P := fun b o (y : List (List Int)) => ∃ ra rc, w.cell? ⟨b, o, none⟩ = some (.slice ra y.length rc) ∧ (ra = none → rc = 0) ∧ ContAt w ra y) (fun i hi => by
    obtain ⟨ab, ao, ha, cs', y, hcell, ht⟩ := hk i hi
    obtain ⟨ra, r, rc, rfl, hn, hw⟩ := cont_open ht
    exact ⟨ab, ao, ha, r, ra, rc, hcell 0 (by omega), hn, hw⟩)
  refine ⟨a, l, cap, rfl, hnil, hlen, ?_⟩
  rcases h1 with h1 | ⟨b, off, ha, hc⟩
  · exact .inl h1
  · exact .inr ⟨b, off, ha, fun k x hx => by have := hc k x hx; rwa [Nat.mul_one] at this⟩
theorem open_words {r : Reach} {b0 : Nat} {v : Value} {d : DataW H} {p : List MemPlace} (hv : Value.okWide Tryd.prog w r b0 30 v) (h : DataW.Trod enc Tryd.prog w base sp held 30 v d p) : ∃ (a : Option Addr) (l : List Int) (c : Nat), v = .slice a l.length c ∧ (a = none → c = 0) ∧ WordsAt w a l := by
  obtain ⟨a, len, cap, rfl⟩ := okWide_slice Tryd.underlying30 hv
  obtain ⟨fuel, hf⟩ := h
  obtain ⟨a', l, c, e, h1, h2⟩ := words_open hf
  have e : [Value.slice a len cap] = [.slice a' l.length c] := e
  injection e with e
  exact ⟨a', l, c, e, h1, h2⟩
theorem open_mem {r : Reach} {b0 : Nat} {v : Value} {d : DataW H} {p : List MemPlace} (hv : Value.okWide Tryd.prog w r b0 29 v) (h : DataW.Trod enc Tryd.prog w base sp held 29 v d p) :
    ∃ (M : Mem) (ma : Option Addr) (mac : Nat) (ms : Option Addr) (msc : Nat), v = M.val ma mac ms msc ∧ MemAt w M ma ms := by
  obtain ⟨cs, rfl, hsz⟩ := okWide_struct Tryd.underlying29 hv
  obtain ⟨fuel, hf⟩ := h
  obtain ⟨xs, n, _, _, hl, hxl, hff⟩ := DataW.trod_struct Tryd.underlying29 hf
  rw [show Tryd.prog.cellsOf 29 = 2 by kernel_rfl] at hl hsz
  obtain ⟨c0, c1, rfl⟩ := arr2 hsz
  match xs, hxl with
  | [y0, y1], _ =>
    have h0 : DataW.trod enc Tryd.prog w base sp held n 26 (((Value.agg #[c0, c1]).cells.toList.drop 0).take (Tryd.prog.cellsOf 26)) = [y0, y1][0]? := hff 0 _ rfl
    have h1 : DataW.trod enc Tryd.prog w base sp held n 27 (((Value.agg #[c0, c1]).cells.toList.drop 1).take (Tryd.prog.cellsOf 27)) = [y0, y1][1]? := hff 1 _ rfl
    rw [show Tryd.prog.cellsOf 26 = 1 by kernel_rfl] at h0
    rw [cells55] at h1
    simp only [Value.cells, List.drop_zero, List.drop_succ_cons, List.take_succ_cons, List.take_zero, List.getElem?_cons_zero, List.getElem?_cons_succ] at h0 h1
    obtain ⟨ma, ml, mc, e0, _, hm⟩ := cont3_open h0
    obtain ⟨sa, sl, sc, e1, _, hs⟩ := cont_open h1
    cases e0; cases e1
    exact ⟨⟨ml, sl⟩, ma, mc, sa, sc, rfl, hm, hs⟩
end
end Go.Proofs.YtgochgcchkdlmaaDoor
