/-
  A function of the intermediate code that reads as data lies in memory as one; rows of words, and rows of such rows.
-/
import Derived.Test.YteknhnnlhhgppaaDoorRows
import Derived.Test.YteknhnnlhhgppaaDoorMg1
import Derived.ProofKit
import Derived.OpenShut
import Derived.Lib.SmallJoins
import Derived.WideKeyArgs
namespace Go.Proofs.YteknhnnlhhgppaaDoor
set_option linter.unusedVariables false
set_option linter.unusedSimpArgs false
open Go.ChangeShapes Go.WideShapes Go.ChangeAt Go.RowKit
set_option maxRecDepth 100000

theorem cells1 : Tryd.prog.cellsOf 9 = 1 := by kernel_rfl
theorem cells2 : Tryd.prog.cellsOf 3 = 1 := by kernel_rfl
theorem cells3 : Tryd.prog.cellsOf 5 = 1 := by kernel_rfl
theorem cells4 : Tryd.prog.cellsOf 21 = 1 := by kernel_rfl
theorem cells5 : Tryd.prog.cellsOf 66 = 1 := by kernel_rfl
theorem cells6 : Tryd.prog.cellsOf 22 = 1 := by kernel_rfl
theorem cells7 : Tryd.prog.cellsOf 41 = 1 := by kernel_rfl
theorem cells8 : Tryd.prog.cellsOf 23 = 1 := by kernel_rfl
theorem cellsA : Tryd.prog.cellsOf 107 = 2 := by kernel_rfl
theorem cellsI : Tryd.prog.cellsOf 54 = 6 := by kernel_rfl
theorem cellsB : Tryd.prog.cellsOf 43 = 5 := by kernel_rfl
theorem cellsF : Tryd.prog.cellsOf 25 = 4 := by kernel_rfl
theorem le_max {n : Nat} (h : n ≤ maxLen) : n ≤ 9223372036854775807 := h
theorem wf64 {n : Int} (h : (Lit.int .i64 n).wf = true) : isI64 n := by
  have : -9223372036854775808 ≤ n ∧ n ≤ 9223372036854775807 := by simpa [Lit.wf, IntKind.min, IntKind.max, IntKind.signed, IntKind.bits] using h
  exact this
theorem wf8 {n : Int} (h : (Lit.int .u8 n).wf = true) : 0 ≤ n ∧ n ≤ 255 := by
  simpa [Lit.wf, IntKind.min, IntKind.max, IntKind.signed, IntKind.bits] using h

section
variable {H : Type} {enc : TypeId × Value → H} {w : World} {base : Nat} {sp : Nat → Bool} {held : Bool}
/-- a row, opened element by element -/
theorem rows_open {t e : TypeId} {size fuel : Nat} {cs : List Value} {x : DataW H × List MemPlace} (ht : Tryd.prog.underlying t = some (.slice e)) (hc : Tryd.prog.cellsOf e = size) (h0 : 0 < size)
    (h : DataW.trod enc Tryd.prog w base sp held fuel t cs = some x) :
    ∃ (a : Option Addr) (len cap n : Nat), cs = [.slice a len cap] ∧ len ≤ 9223372036854775807 ∧ (a = none → cap = 0) ∧ ∀ i, i < len → ∃ ab ao, a = some ⟨ab, ao, none⟩ ∧ ∃ (cs' : List Value) (y : DataW H × List MemPlace),
      (∀ o, o < size → w.cell? ⟨ab, ao + i * size + o, none⟩ = cs'[o]?) ∧ DataW.trod enc Tryd.prog w base sp held n e cs' = some y := by
  rcases DataW.trod_slice ht h with ⟨h4, _⟩ | ⟨a, len, cap, elems, rest, n', _, h4, _, _, hlc, hcm, hel, hel2, _, _⟩
  · exact ⟨none, 0, 0, 0, h4, by omega, fun _ => rfl, fun i hi => by omega⟩
  · have hcm' := le_max hcm
    refine ⟨some a, len, cap, n', h4, by omega, fun h => (by cases h), fun i hi => ?_⟩
    have hspot : a.spot = none := by
      have hi2 := hel2 0 (by omega)
      rw [Nat.zero_mul, hc] at hi2
      obtain ⟨y, hy⟩ : ∃ y, elems[0]? = some y := ⟨_, List.getElem?_eq_getElem (by omega)⟩
      rw [hy] at hi2
      obtain ⟨cs', hc1, hc2⟩ := Option.bind_eq_some_iff.1 hi2
      obtain ⟨_, hl, hcs⟩ := World.cells?_some hc1
      have e0 := hcs 0 h0
      rw [show (a.add 0).add 0 = a by simp [Addr.add], List.getElem?_eq_getElem (by omega)] at e0
      cases hq : a.spot with
      | none => rfl
      | some q =>
        unfold World.cell? at e0
        rw [hq] at e0
        split at e0 <;> simp at e0
    obtain ⟨ab, ao, asp⟩ := a
    obtain rfl : asp = none := hspot
    have hi2 := hel2 i hi
    rw [hc] at hi2
    obtain ⟨y, hy⟩ : ∃ y, elems[i]? = some y := ⟨_, List.getElem?_eq_getElem (by omega)⟩
    rw [hy] at hi2
    obtain ⟨cs', hc1, hc2⟩ := Option.bind_eq_some_iff.1 hi2
    obtain ⟨_, _, hcs⟩ := World.cells?_some hc1
    refine ⟨ab, ao, rfl, cs', y, fun o ho => ?_, hc2⟩
    have := hcs o ho
    have hadd : ((⟨ab, ao, none⟩ : Addr).add (i * size)).add o = ⟨ab, ao + i * size + o, none⟩ := by
      unfold Addr.add
      by_cases h1 : i * size = 0 <;> by_cases h2 : o = 0 <;> simp [h1, h2]
      all_goals omega
    rw [hadd] at this
    exact this
/-- a list out of its elements -/
theorem row_build {α : Type} {size len : Nat} {a : Option Addr} {P : Nat → Nat → α → Prop} (h : ∀ i, i < len → ∃ ab ao, a = some ⟨ab, ao, none⟩ ∧ ∃ x, P ab (ao + i * size) x) :
    ∃ l : List α, l.length = len ∧ (l.length = 0 ∨ ∃ b off, a = some ⟨b, off, none⟩ ∧ ∀ (k : Nat) (x : α), l[k]? = some x → P b (off + k * size) x) ∧ ∀ x ∈ l, ∃ b o, P b o x := by
  by_cases h0 : len = 0
  · exact ⟨[], by simp [h0], .inl rfl, fun x hx => by cases hx⟩
  · obtain ⟨b, off, ha, _⟩ := h 0 (by omega)
    have h' : ∀ i : Fin len, ∃ x, P b (off + i.1 * size) x := fun i => by
      obtain ⟨b', off', ha', x, hx⟩ := h i.1 i.2
      rw [ha] at ha'
      injection ha' with e
      injection e with e1 e2
      subst e1 e2
      exact ⟨x, hx⟩
    obtain ⟨g, hg⟩ := Classical.axiomOfChoice h'
    have key : ∀ (k : Nat) (x : α), (List.ofFn g)[k]? = some x → P b (off + k * size) x := by
      intro k x hx
      rw [List.getElem?_ofFn] at hx
      split at hx
      · rename_i hk
        injection hx with hx
        rw [← hx]
        exact hg ⟨k, hk⟩
      · cases hx
    refine ⟨List.ofFn g, by simp, .inr ⟨b, off, ha, key⟩, fun x hx => ?_⟩
    obtain ⟨k, hk⟩ := List.getElem?_of_mem hx
    exact ⟨b, _, key k x hk⟩
theorem words_open {fuel : Nat} {cs : List Value} {x : DataW H × List MemPlace} (h : DataW.trod enc Tryd.prog w base sp held fuel 66 cs = some x) :
    ∃ (a : Option Addr) (l : List Int) (c : Nat), cs = [.slice a l.length c] ∧ (a = none → c = 0) ∧ WordsAt w a l := by
  obtain ⟨a, len, cap, n, rfl, hlen, hnil, hk⟩ := rows_open Tryd.underlying66 cells4 (by omega) h
  obtain ⟨l, rfl, h1, h2⟩ := row_build (a := a) (len := len) (size := 1) (P := fun b o (y : Int) => w.cell? ⟨b, o, none⟩ = some (.int .i32 y) ∧ Wd.W y) (fun i hi => by
    obtain ⟨ab, ao, ha, cs', y, hcell, ht⟩ := hk i hi
    obtain ⟨m, rfl, _, wm⟩ := DataW.trod_int Tryd.underlying21 ht
    exact ⟨ab, ao, ha, m, hcell 0 (by omega), Wd.W_wf wm⟩)
  refine ⟨a, l, cap, rfl, hnil, hlen, fun x hx => by obtain ⟨_, _, _, hw⟩ := h2 x hx; exact hw, ?_⟩
  rcases h1 with h1 | ⟨b, off, ha, hc⟩
  · exact .inl h1
  · exact .inr ⟨b, off, ha, fun k x hx => by have := (hc k x hx).1; rwa [Nat.mul_one] at this⟩
theorem cont_open {fuel : Nat} {cs : List Value} {x : DataW H × List MemPlace} (h : DataW.trod enc Tryd.prog w base sp held fuel 65 cs = some x) :
    ∃ (a : Option Addr) (l : List (List Int)) (c : Nat), cs = [.slice a l.length c] ∧ ContAt w a l := by
  obtain ⟨a, len, cap, n, rfl, hlen, hnil, hk⟩ := rows_open Tryd.underlying65 cells5 (by omega) h
  obtain ⟨l, rfl, h1, h2⟩ := row_build (a := a) (len := len) (size := 1) (P := fun b o (y : List Int) => ∃ ra rc, w.cell? ⟨b, o, none⟩ = some (.slice ra y.length rc) ∧ (ra = none → rc = 0) ∧ WordsAt w ra y) (fun i hi => by
    obtain ⟨ab, ao, ha, cs', y, hcell, ht⟩ := hk i hi
    obtain ⟨ra, r, rc, rfl, hn, hw⟩ := words_open ht
    exact ⟨ab, ao, ha, r, ra, rc, hcell 0 (by omega), hn, hw⟩)
  refine ⟨a, l, cap, rfl, hlen, ?_⟩
  rcases h1 with h1 | ⟨b, off, ha, hc⟩
  · exact .inl h1
  · exact .inr ⟨b, off, ha, fun k x hx => by have := hc k x hx; rwa [Nat.mul_one] at this⟩
theorem arr_open {fuel : Nat} {cs : List Value} {x : DataW H × List MemPlace} (h : DataW.trod enc Tryd.prog w base sp held fuel 107 cs = some x) :
    ∃ y : ByteArray × Int, cs = [.string y.1, .int .i64 y.2] ∧ y.1.size ≤ 9223372036854775807 := by
  obtain ⟨xs, n, _, rfl, hl, hxl, hf⟩ := DataW.trod_struct Tryd.underlying107 h
  rw [cellsA] at hl
  match cs, hl with
  | [c0, c1], _ =>
    match xs, hxl with
    | [y0, y1], _ =>
      have h0 : DataW.trod enc Tryd.prog w base sp held n 9 (([c0, c1].drop 0).take (Tryd.prog.cellsOf 9)) = [y0, y1][0]? := hf 0 _ rfl
      have h1 : DataW.trod enc Tryd.prog w base sp held n 3 (([c0, c1].drop 1).take (Tryd.prog.cellsOf 3)) = [y0, y1][1]? := hf 1 _ rfl
      rw [cells1] at h0
      rw [cells2] at h1
      simp only [List.drop_zero, List.drop_succ_cons, List.take_succ_cons, List.take_zero, List.getElem?_cons_zero, List.getElem?_cons_succ] at h0 h1
      obtain ⟨s, hs, _, ws⟩ := DataW.trod_string Tryd.underlying9 h0
      obtain ⟨m, hm, _, wm⟩ := DataW.trod_int Tryd.underlying3 h1
      cases hs; cases hm
      exact ⟨(s, m), rfl, le_max ws⟩
theorem arrs_open {fuel : Nat} {cs : List Value} {x : DataW H × List MemPlace} (h : DataW.trod enc Tryd.prog w base sp held fuel 22 cs = some x) :
    ∃ (a : Option Addr) (l : List (ByteArray × Int)) (c : Nat), cs = [.slice a l.length c] ∧ ArrsAt w a l := by
  obtain ⟨a, len, cap, n, rfl, hlen, hnil, hk⟩ := rows_open Tryd.underlying22 cellsA (by omega) h
  obtain ⟨l, rfl, h1, h2⟩ := row_build (a := a) (len := len) (size := 2) (P := fun b o (y : ByteArray × Int) => (w.cell? ⟨b, o, none⟩ = some (.string y.1) ∧ w.cell? ⟨b, o + 1, none⟩ = some (.int .i64 y.2)) ∧ y.1.size ≤ 9223372036854775807) (fun i hi => by
    obtain ⟨ab, ao, ha, cs', y, hcell, ht⟩ := hk i hi
    obtain ⟨z, rfl, z1⟩ := arr_open ht
    exact ⟨ab, ao, ha, z, ⟨hcell 0 (by omega), hcell 1 (by omega)⟩, z1⟩)
  refine ⟨a, l, cap, rfl, hlen, fun x hx => by obtain ⟨_, _, _, hw⟩ := h2 x hx; exact hw, ?_⟩
  rcases h1 with h1 | ⟨b, off, ha, hc⟩
  · exact .inl h1
  · exact .inr ⟨b, off, ha, fun k x hx => (hc k x hx).1⟩
theorem list6 {l : List Value} (h : l.length = 6) : ∃ a b c d e f, l = [a, b, c, d, e, f] := by
  match l, h with
  | [a, b, c, d, e, f], _ => exact ⟨a, b, c, d, e, f, rfl⟩
theorem list5 {l : List Value} (h : l.length = 5) : ∃ a b c d e, l = [a, b, c, d, e] := by
  match l, h with
  | [a, b, c, d, e], _ => exact ⟨a, b, c, d, e, rfl⟩
theorem list4 {l : List Value} (h : l.length = 4) : ∃ a b c d, l = [a, b, c, d] := by
  match l, h with
  | [a, b, c, d], _ => exact ⟨a, b, c, d, rfl⟩
theorem ins_open {fuel : Nat} {cs : List Value} {x : DataW H × List MemPlace} (h : DataW.trod enc Tryd.prog w base sp held fuel 54 cs = some x) :
    ∃ i : Ins, cs = [.int .u8 i.op, .int .i64 i.dst, .int .i64 i.x, .int .i64 i.y, .int .i64 i.imm, .string i.sym] ∧ i.Wf := by
  obtain ⟨xs, n, _, rfl, hl, hxl, hf⟩ := DataW.trod_struct Tryd.underlying54 h
  rw [cellsI] at hl
  obtain ⟨c0, c1, c2, c3, c4, c5, rfl⟩ := list6 hl
  match xs, hxl with
  | [y0, y1, y2, y3, y4, y5], _ =>
    have h0 : DataW.trod enc Tryd.prog w base sp held n 5 (([c0, c1, c2, c3, c4, c5].drop 0).take (Tryd.prog.cellsOf 5)) = [y0, y1, y2, y3, y4, y5][0]? := hf 0 _ rfl
    have h1 : DataW.trod enc Tryd.prog w base sp held n 3 (([c0, c1, c2, c3, c4, c5].drop 1).take (Tryd.prog.cellsOf 3)) = [y0, y1, y2, y3, y4, y5][1]? := hf 1 _ rfl
    have h2 : DataW.trod enc Tryd.prog w base sp held n 3 (([c0, c1, c2, c3, c4, c5].drop 2).take (Tryd.prog.cellsOf 3)) = [y0, y1, y2, y3, y4, y5][2]? := hf 2 _ rfl
    have h3 : DataW.trod enc Tryd.prog w base sp held n 3 (([c0, c1, c2, c3, c4, c5].drop 3).take (Tryd.prog.cellsOf 3)) = [y0, y1, y2, y3, y4, y5][3]? := hf 3 _ rfl
    have h4 : DataW.trod enc Tryd.prog w base sp held n 3 (([c0, c1, c2, c3, c4, c5].drop 4).take (Tryd.prog.cellsOf 3)) = [y0, y1, y2, y3, y4, y5][4]? := hf 4 _ rfl
    have h5 : DataW.trod enc Tryd.prog w base sp held n 9 (([c0, c1, c2, c3, c4, c5].drop 5).take (Tryd.prog.cellsOf 9)) = [y0, y1, y2, y3, y4, y5][5]? := hf 5 _ rfl
    rw [cells3] at h0
    rw [cells2] at h1 h2 h3 h4
    rw [cells1] at h5
    simp only [List.drop_zero, List.drop_succ_cons, List.take_succ_cons, List.take_zero, List.take_nil, List.getElem?_cons_zero, List.getElem?_cons_succ] at h0 h1 h2 h3 h4 h5
    obtain ⟨m0, e0, _, w0⟩ := DataW.trod_int Tryd.underlying5 h0
    obtain ⟨m1, e1, _, w1⟩ := DataW.trod_int Tryd.underlying3 h1
    obtain ⟨m2, e2, _, w2⟩ := DataW.trod_int Tryd.underlying3 h2
    obtain ⟨m3, e3, _, w3⟩ := DataW.trod_int Tryd.underlying3 h3
    obtain ⟨m4, e4, _, w4⟩ := DataW.trod_int Tryd.underlying3 h4
    obtain ⟨m5, e5, _, w5⟩ := DataW.trod_string Tryd.underlying9 h5
    cases e0; cases e1; cases e2; cases e3; cases e4; cases e5
    exact ⟨⟨m0, m1, m2, m3, m4, m5⟩, rfl, (wf8 w0).1, (wf8 w0).2, wf64 w1, wf64 w2, wf64 w3, wf64 w4, le_max w5⟩
theorem code_open {fuel : Nat} {cs : List Value} {x : DataW H × List MemPlace} (h : DataW.trod enc Tryd.prog w base sp held fuel 41 cs = some x) :
    ∃ (a : Option Addr) (l : List Ins) (c : Nat), cs = [.slice a l.length c] ∧ CodeAt w a l := by
  obtain ⟨a, len, cap, n, rfl, hlen, hnil, hk⟩ := rows_open Tryd.underlying41 cellsI (by omega) h
  obtain ⟨l, rfl, h1, h2⟩ := row_build (a := a) (len := len) (size := 6) (P := fun b o (y : Ins) => InsAt w b o y ∧ y.Wf) (fun i hi => by
    obtain ⟨ab, ao, ha, cs', y, hcell, ht⟩ := hk i hi
    obtain ⟨z, rfl, z1⟩ := ins_open ht
    exact ⟨ab, ao, ha, z, ⟨hcell 0 (by omega), hcell 1 (by omega), hcell 2 (by omega), hcell 3 (by omega), hcell 4 (by omega), hcell 5 (by omega)⟩, z1⟩)
  refine ⟨a, l, cap, rfl, hlen, fun x hx => by obtain ⟨_, _, _, hw⟩ := h2 x hx; exact hw, ?_⟩
  rcases h1 with h1 | ⟨b, off, ha, hc⟩
  · exact .inl h1
  · exact .inr ⟨b, off, ha, fun k x hx => (hc k x hx).1⟩
theorem blk_open {fuel : Nat} {cs : List Value} {x : DataW H × List MemPlace} (h : DataW.trod enc Tryd.prog w base sp held fuel 43 cs = some x) :
    ∃ (b : Blk) (a : Option Addr) (c : Nat), cs = [.slice a b.code.length c, .int .u8 b.kind, .int .i64 b.x, .int .i64 b.to, .int .i64 b.els] ∧ b.Wf ∧ CodeAt w a b.code := by
  obtain ⟨xs, n, _, rfl, hl, hxl, hf⟩ := DataW.trod_struct Tryd.underlying43 h
  rw [cellsB] at hl
  obtain ⟨c0, c1, c2, c3, c4, rfl⟩ := list5 hl
  match xs, hxl with
  | [y0, y1, y2, y3, y4], _ =>
    have h0 : DataW.trod enc Tryd.prog w base sp held n 41 (([c0, c1, c2, c3, c4].drop 0).take (Tryd.prog.cellsOf 41)) = [y0, y1, y2, y3, y4][0]? := hf 0 _ rfl
    have h1 : DataW.trod enc Tryd.prog w base sp held n 5 (([c0, c1, c2, c3, c4].drop 1).take (Tryd.prog.cellsOf 5)) = [y0, y1, y2, y3, y4][1]? := hf 1 _ rfl
    have h2 : DataW.trod enc Tryd.prog w base sp held n 3 (([c0, c1, c2, c3, c4].drop 2).take (Tryd.prog.cellsOf 3)) = [y0, y1, y2, y3, y4][2]? := hf 2 _ rfl
    have h3 : DataW.trod enc Tryd.prog w base sp held n 3 (([c0, c1, c2, c3, c4].drop 3).take (Tryd.prog.cellsOf 3)) = [y0, y1, y2, y3, y4][3]? := hf 3 _ rfl
    have h4 : DataW.trod enc Tryd.prog w base sp held n 3 (([c0, c1, c2, c3, c4].drop 4).take (Tryd.prog.cellsOf 3)) = [y0, y1, y2, y3, y4][4]? := hf 4 _ rfl
    rw [cells7] at h0
    rw [cells3] at h1
    rw [cells2] at h2 h3 h4
    simp only [List.drop_zero, List.drop_succ_cons, List.take_succ_cons, List.take_zero, List.take_nil, List.getElem?_cons_zero, List.getElem?_cons_succ] at h0 h1 h2 h3 h4
    obtain ⟨a, l, c, e0, hcode⟩ := code_open h0
    obtain ⟨m1, e1, _, w1⟩ := DataW.trod_int Tryd.underlying5 h1
    obtain ⟨m2, e2, _, w2⟩ := DataW.trod_int Tryd.underlying3 h2
    obtain ⟨m3, e3, _, w3⟩ := DataW.trod_int Tryd.underlying3 h3
    obtain ⟨m4, e4, _, w4⟩ := DataW.trod_int Tryd.underlying3 h4
    cases e0; cases e1; cases e2; cases e3; cases e4
    exact ⟨⟨l, m1, m2, m3, m4⟩, a, c, rfl, ⟨(wf8 w1).1, (wf8 w1).2, wf64 w2, wf64 w3, wf64 w4⟩, hcode⟩
theorem blks_open {fuel : Nat} {cs : List Value} {x : DataW H × List MemPlace} (h : DataW.trod enc Tryd.prog w base sp held fuel 23 cs = some x) :
    ∃ (a : Option Addr) (l : List Blk) (c : Nat), cs = [.slice a l.length c] ∧ BlksAt w a l := by
  obtain ⟨a, len, cap, n, rfl, hlen, hnil, hk⟩ := rows_open Tryd.underlying23 cellsB (by omega) h
  obtain ⟨l, rfl, h1, h2⟩ := row_build (a := a) (len := len) (size := 5) (P := fun b o (y : Blk) => (∃ ca cc, BlkAt w b o y ca cc ∧ CodeAt w ca y.code) ∧ y.Wf) (fun i hi => by
    obtain ⟨ab, ao, ha, cs', y, hcell, ht⟩ := hk i hi
    obtain ⟨z, za, zc, rfl, z1, z2⟩ := blk_open ht
    exact ⟨ab, ao, ha, z, ⟨za, zc, ⟨hcell 0 (by omega), hcell 1 (by omega), hcell 2 (by omega), hcell 3 (by omega), hcell 4 (by omega)⟩, z2⟩, z1⟩)
  refine ⟨a, l, cap, rfl, hlen, fun x hx => by obtain ⟨_, _, _, hw⟩ := h2 x hx; exact hw, ?_⟩
  rcases h1 with h1 | ⟨b, off, ha, hc⟩
  · exact .inl h1
  · exact .inr ⟨b, off, ha, fun k x hx => (hc k x hx).1⟩
theorem open_fn {r : Reach} {b0 : Nat} {v : Value} {d : DataW H} {p : List MemPlace} (hv : Value.okWide Tryd.prog w r b0 25 v) (h : DataW.Trod enc Tryd.prog w base sp held 25 v d p) :
    ∃ (f : Fn) (aa ba : Option Addr) (ac bc : Nat), v = fnVal f.name f.regs aa f.arrays.length ac ba f.blocks.length bc ∧ FnAt w f aa ba := by
  obtain ⟨cs, rfl, hsz⟩ := okWide_struct Tryd.underlying25 hv
  obtain ⟨fuel, hf⟩ := h
  obtain ⟨xs, n, _, _, hl, hxl, hff⟩ := DataW.trod_struct Tryd.underlying25 hf
  rw [cellsF] at hl hsz
  obtain ⟨cs⟩ := cs
  obtain ⟨c0, c1, c2, c3, rfl⟩ := list4 hsz
  match xs, hxl with
  | [y0, y1, y2, y3], _ =>
    have h0 : DataW.trod enc Tryd.prog w base sp held n 9 (((Value.agg #[c0, c1, c2, c3]).cells.toList.drop 0).take (Tryd.prog.cellsOf 9)) = [y0, y1, y2, y3][0]? := hff 0 _ rfl
    have h1 : DataW.trod enc Tryd.prog w base sp held n 3 (((Value.agg #[c0, c1, c2, c3]).cells.toList.drop 1).take (Tryd.prog.cellsOf 3)) = [y0, y1, y2, y3][1]? := hff 1 _ rfl
    have h2 : DataW.trod enc Tryd.prog w base sp held n 22 (((Value.agg #[c0, c1, c2, c3]).cells.toList.drop 2).take (Tryd.prog.cellsOf 22)) = [y0, y1, y2, y3][2]? := hff 2 _ rfl
    have h3 : DataW.trod enc Tryd.prog w base sp held n 23 (((Value.agg #[c0, c1, c2, c3]).cells.toList.drop 3).take (Tryd.prog.cellsOf 23)) = [y0, y1, y2, y3][3]? := hff 3 _ rfl
    rw [cells1] at h0
    rw [cells2] at h1
    rw [cells6] at h2
    rw [cells8] at h3
    simp only [Value.cells, List.drop_zero, List.drop_succ_cons, List.take_succ_cons, List.take_zero, List.take_nil, List.getElem?_cons_zero, List.getElem?_cons_succ] at h0 h1 h2 h3
    obtain ⟨m0, e0, _, w0⟩ := DataW.trod_string Tryd.underlying9 h0
    obtain ⟨m1, e1, _, w1⟩ := DataW.trod_int Tryd.underlying3 h1
    obtain ⟨aa, al, ac, e2, haa⟩ := arrs_open h2
    obtain ⟨ba, bl, bc, e3, hba⟩ := blks_open h3
    cases e0; cases e1; cases e2; cases e3
    exact ⟨⟨m0, m1, al, bl⟩, aa, ba, ac, bc, rfl, haa, hba, wf64 w1, le_max w0⟩
theorem open_words {r : Reach} {b0 : Nat} {v : Value} {d : DataW H} {p : List MemPlace} (hv : Value.okWide Tryd.prog w r b0 66 v) (h : DataW.Trod enc Tryd.prog w base sp held 66 v d p) : ∃ (a : Option Addr) (l : List Int) (c : Nat), v = .slice a l.length c ∧ (a = none → c = 0) ∧ WordsAt w a l := by
  obtain ⟨a, len, cap, rfl⟩ := okWide_slice Tryd.underlying66 hv
  obtain ⟨fuel, hf⟩ := h
  obtain ⟨a', l, c, e, h1, h2⟩ := words_open hf
  have e : [Value.slice a len cap] = [.slice a' l.length c] := e
  injection e with e
  exact ⟨a', l, c, e, h1, h2⟩
theorem open_cont {r : Reach} {b0 : Nat} {v : Value} {d : DataW H} {p : List MemPlace} (hv : Value.okWide Tryd.prog w r b0 65 v) (h : DataW.Trod enc Tryd.prog w base sp held 65 v d p) : ∃ (a : Option Addr) (l : List (List Int)) (c : Nat), v = .slice a l.length c ∧ ContAt w a l := by
  obtain ⟨a, len, cap, rfl⟩ := okWide_slice Tryd.underlying65 hv
  obtain ⟨fuel, hf⟩ := h
  obtain ⟨a', l, c, e, h2⟩ := cont_open hf
  have e : [Value.slice a len cap] = [.slice a' l.length c] := e
  injection e with e
  exact ⟨a', l, c, e, h2⟩
theorem open_arrs {r : Reach} {b0 : Nat} {v : Value} {d : DataW H} {p : List MemPlace} (hv : Value.okWide Tryd.prog w r b0 22 v) (h : DataW.Trod enc Tryd.prog w base sp held 22 v d p) : ∃ (a : Option Addr) (l : List (ByteArray × Int)) (c : Nat), v = .slice a l.length c ∧ ArrsAt w a l := by
  obtain ⟨a, len, cap, rfl⟩ := okWide_slice Tryd.underlying22 hv
  obtain ⟨fuel, hf⟩ := h
  obtain ⟨a', l, c, e, h2⟩ := arrs_open hf
  have e : [Value.slice a len cap] = [.slice a' l.length c] := e
  injection e with e
  exact ⟨a', l, c, e, h2⟩
end
end Go.Proofs.YteknhnnlhhgppaaDoor
