/-
  Mg37: several texts in one (IrOpenS, CallOpen, InsMem).
-/
import Derived.Test.YteknhnnlhhgppaaDoorIrOpen
import Derived.SizedLaws
import Derived.Test.YteknhnnlhhgppaaDoorBehave
import Derived.Test.YteknhnnlhhgppaaDoorMg19
import Derived.Laws.CopyRow
/-
  What the form's reach says of a function of the intermediate code that came in: its name and its symbols are short.
-/
namespace Go.Proofs.YteknhnnlhhgppaaDoor
set_option linter.unusedVariables false
set_option linter.unusedSimpArgs false
open Go.ChangeShapes Go.WideShapes Go.ChangeAt Go.RowKit
set_option maxRecDepth 100000

theorem wfi8 {n : Int} (h : (Lit.int .i8 n).wf = true) : -128 ≤ n ∧ n ≤ 127 := by
  have : -128 ≤ n ∧ n ≤ 127 := by simpa [Lit.wf, IntKind.min, IntKind.max, IntKind.signed, IntKind.bits] using h
  exact this
section
variable {H : Type} {enc : TypeId × Value → H} {w : World} {base : Nat} {sp : Nat → Bool} {held : Bool}
theorem weights_all {P : Program} {e : TypeId} : ∀ {ds : List (DataW H)} {d : DataW H}, d ∈ ds → ∀ n ∈ d.weights P e, n ∈ DataW.weightsAll P e ds := by
  intro ds
  induction ds with
  | nil => intro d h; cases h
  | cons x ds ih =>
    intro d h n hn
    rw [DataW.weightsAll]
    rcases List.mem_cons.1 h with rfl | h
    · exact List.mem_append_left _ hn
    · exact List.mem_append_right _ (ih h n hn)
/-- an element of a row, with what it weighs -/
theorem rows_sized {t e : TypeId} {size fuel ab ao len cap : Nat} {x : DataW H × List MemPlace} (ht : Tryd.prog.underlying t = some (.slice e)) (hc : Tryd.prog.cellsOf e = size)
    (h : DataW.trod enc Tryd.prog w base sp held fuel t [.slice (some ⟨ab, ao, none⟩) len cap] = some x) {i : Nat} (hi : i < len) :
    ∃ (cs' : List Value) (y : DataW H × List MemPlace) (n : Nat), cs'.length = size ∧ (∀ o, o < size → w.cell? ⟨ab, ao + i * size + o, none⟩ = cs'[o]?) ∧ DataW.trod enc Tryd.prog w base sp held n e cs' = some y ∧ ∀ m ∈ y.1.weights Tryd.prog e, m ∈ x.1.weights Tryd.prog t := by
  rcases DataW.trod_slice ht h with ⟨h4, _⟩ | ⟨a, len', cap', elems, rest, n', _, h4, hx, _, hlc, hcm, hel, hel2, _, _⟩
  · injection h4 with h4
    injection h4 with h5
    cases h5
  · injection h4 with h4
    injection h4 with h5 h6 h7
    cases h5
    subst h6 h7
    have hi2 := hel2 i hi
    rw [hc] at hi2
    obtain ⟨y, hy⟩ : ∃ y, elems[i]? = some y := ⟨_, List.getElem?_eq_getElem (by omega)⟩
    rw [hy] at hi2
    obtain ⟨cs', hc1, hc2⟩ := Option.bind_eq_some_iff.1 hi2
    obtain ⟨_, hl, hcs⟩ := World.cells?_some hc1
    refine ⟨cs', y, n', hl, fun o ho => ?_, hc2, fun m hm => ?_⟩
    · have := hcs o ho
      have hadd : ((⟨ab, ao, none⟩ : Addr).add (i * size)).add o = ⟨ab, ao + i * size + o, none⟩ := by
        unfold Addr.add
        by_cases h1 : i * size = 0 <;> by_cases h2 : o = 0 <;> simp [h1, h2]
        all_goals omega
      rw [hadd] at this
      exact this
    · rw [hx]
      simp only [DataW.weights, ht]
      exact List.mem_cons_of_mem _ (List.mem_append_left _ (weights_all (List.mem_map_of_mem (List.mem_of_getElem? hy)) m hm))
/-- a field of a struct, with what it weighs -/
theorem field_sized {fs : Array Field} {t : TypeId} {fuel : Nat} {cs : List Value} {x : DataW H × List MemPlace} (ht : Tryd.prog.underlying t = some (.struct fs)) (h : DataW.trod enc Tryd.prog w base sp held fuel t cs = some x) {i : Nat} {f : Field} (hf : fs[i]? = some f) :
    ∃ (y : DataW H × List MemPlace) (n : Nat), DataW.trod enc Tryd.prog w base sp held n f.type ((cs.drop f.offset).take (Tryd.prog.cellsOf f.type)) = some y ∧ ∀ m ∈ y.1.weights Tryd.prog f.type, m ∈ x.1.weights Tryd.prog t := by
  obtain ⟨xs, n, _, hx, hl, hxl, hff⟩ := DataW.trod_struct ht h
  have hi : i < xs.length := by rw [hxl]; exact (Array.getElem?_eq_some_iff.1 hf).1
  refine ⟨xs[i], n, (hff i f hf).trans (List.getElem?_eq_getElem hi), fun m hm => ?_⟩
  rw [hx]
  simp only [DataW.weights, ht]
  refine DataW.weights_mem_each (j := i) (t := f.type) (d := xs[i].1) ?_ ?_ m hm
  · rw [List.getElem?_map, Array.getElem?_toList, hf]; rfl
  · rw [List.getElem?_map, List.getElem?_eq_getElem hi]; rfl
theorem str_sized {fuel : Nat} {s : ByteArray} {x : DataW H × List MemPlace} {R : Nat} (h : DataW.trod enc Tryd.prog w base sp held fuel 9 [.string s] = some x) (hR : ∀ m ∈ x.1.weights Tryd.prog 9, m ≤ R) : s.size ≤ R := by
  obtain ⟨s', e, hx, _⟩ := DataW.trod_string Tryd.underlying9 h
  injection e with e
  injection e with e
  subst e
  have := hR s.data.toList.length (by rw [hx]; simp [DataW.weights])
  simpa using this
theorem code_sized {fuel len cap : Nat} {a : Option Addr} {l : List Ins} {x : DataW H × List MemPlace} {R : Nat} (h : DataW.trod enc Tryd.prog w base sp held fuel 41 [.slice a len cap] = some x) (hc : CodeAt w a l) (hl : l.length = len) (hR : ∀ m ∈ x.1.weights Tryd.prog 41, m ≤ R) : ∀ i ∈ l, i.sym.size ≤ R := by
  intro i hi
  rcases hc.at_ with h0 | ⟨b, off, rfl, hk⟩
  · have := List.length_pos_of_mem hi
    omega
  · obtain ⟨k, hk2⟩ := List.getElem?_of_mem hi
    have hkl : k < len := by rw [← hl]; exact (List.getElem?_eq_some_iff.1 hk2).1
    obtain ⟨cs', y, n, hlen, hcell, ht, hm⟩ := rows_sized Tryd.underlying41 cellsI h hkl
    have h5 := (hk k i hk2).c5
    rw [hcell 5 (by omega)] at h5
    obtain ⟨z, n2, hz, hz2⟩ := field_sized (i := 5) Tryd.underlying54 ht rfl
    have e : (cs'.drop 5).take 1 = [.string i.sym] := by
      obtain ⟨c0, c1, c2, c3, c4, c5, rfl⟩ := list6 hlen
      simp at h5 ⊢
      exact h5
    refine str_sized (enc := enc) (w := w) (base := base) (sp := sp) (held := held) (R := R) (x := z) (fuel := n2) ?_ (fun m hm2 => hR m (hm m (hz2 m hm2)))
    have hz' : DataW.trod enc Tryd.prog w base sp held n2 9 ((cs'.drop 5).take (Tryd.prog.cellsOf 9)) = some z := hz
    rwa [cells1, e] at hz'
theorem blks_sized {fuel len cap : Nat} {a : Option Addr} {l : List Blk} {x : DataW H × List MemPlace} {R : Nat} (h : DataW.trod enc Tryd.prog w base sp held fuel 23 [.slice a len cap] = some x) (hc : BlksAt w a l) (hl : l.length = len) (hR : ∀ m ∈ x.1.weights Tryd.prog 23, m ≤ R) : ∀ b ∈ l, ∀ i ∈ b.code, i.sym.size ≤ R := by
  intro b hb
  rcases hc.at_ with h0 | ⟨bb, off, rfl, hk⟩
  · have := List.length_pos_of_mem hb
    omega
  · obtain ⟨k, hk2⟩ := List.getElem?_of_mem hb
    have hkl : k < len := by rw [← hl]; exact (List.getElem?_eq_some_iff.1 hk2).1
    obtain ⟨cs', y, n, hlen, hcell, ht, hm⟩ := rows_sized Tryd.underlying23 cellsB h hkl
    obtain ⟨ca, cc, hblk, hcode⟩ := hk k b hk2
    have h0 := hblk.c0
    have hc0 := hcell 0 (by omega)
    rw [Nat.add_zero] at hc0
    rw [hc0] at h0
    obtain ⟨z, n2, hz, hz2⟩ := field_sized (i := 0) Tryd.underlying43 ht rfl
    have e : (cs'.drop 0).take 1 = [.slice ca b.code.length cc] := by
      obtain ⟨c0, c1, c2, c3, c4, rfl⟩ := list5 hlen
      simp at h0 ⊢
      exact h0
    refine code_sized (enc := enc) (w := w) (base := base) (sp := sp) (held := held) (R := R) (x := z) (fuel := n2) (len := b.code.length) (cap := cc) ?_ hcode rfl (fun m hm2 => hR m (hm m (hz2 m hm2)))
    have hz' : DataW.trod enc Tryd.prog w base sp held n2 41 ((cs'.drop 0).take (Tryd.prog.cellsOf 41)) = some z := hz
    rwa [cells7, e] at hz'
theorem fn_sized {f : Fn} {aa ba : Option Addr} {ac bc : Nat} {d : DataW H} {p : List MemPlace} {R : Nat} (h : DataW.Trod enc Tryd.prog w base sp held 25 (fnVal f.name f.regs aa f.arrays.length ac ba f.blocks.length bc) d p) (hf : FnAt w f aa ba) (hR : ∀ m ∈ d.weights Tryd.prog 25, m ≤ R) :
    f.name.size ≤ R ∧ ∀ b ∈ f.blocks, ∀ i ∈ b.code, i.sym.size ≤ R := by
  obtain ⟨fuel, ht⟩ := h
  constructor
  · obtain ⟨z, n2, hz, hz2⟩ := field_sized (i := 0) Tryd.underlying25 ht rfl
    refine str_sized (enc := enc) (w := w) (base := base) (sp := sp) (held := held) (R := R) (x := z) (fuel := n2) ?_ (fun m hm2 => hR m (hz2 m hm2))
    have hz' : DataW.trod enc Tryd.prog w base sp held n2 9 ((((fnVal f.name f.regs aa f.arrays.length ac ba f.blocks.length bc).cells.toList).drop 0).take (Tryd.prog.cellsOf 9)) = some z := hz
    rw [cells1] at hz'
    exact hz'
  · obtain ⟨z, n2, hz, hz2⟩ := field_sized (i := 3) Tryd.underlying25 ht rfl
    refine blks_sized (enc := enc) (w := w) (base := base) (sp := sp) (held := held) (R := R) (x := z) (fuel := n2) (len := f.blocks.length) (cap := bc) ?_ hf.blocks rfl (fun m hm2 => hR m (hz2 m hm2))
    have hz' : DataW.trod enc Tryd.prog w base sp held n2 23 ((((fnVal f.name f.regs aa f.arrays.length ac ba f.blocks.length bc).cells.toList).drop 3).take (Tryd.prog.cellsOf 23)) = some z := hz
    rw [cells8] at hz'
    exact hz'
end
end Go.Proofs.YteknhnnlhhgppaaDoor

/-
  A call of package ontimelaw19 that reads as data lies in memory as one; its rows fit into a memory.
-/
namespace Go.Proofs.YteknhnnlhhgppaaDoor
set_option linter.unusedVariables false
set_option linter.unusedSimpArgs false
open Go.ChangeShapes Go.WideShapes Go.ChangeAt Go.RowKit
set_option maxRecDepth 100000

theorem cellsC : Tryd.prog.cellsOf 68 = 8 := by kernel_rfl
theorem cells9 : Tryd.prog.cellsOf 65 = 1 := by kernel_rfl
theorem bytesA : Tryd.prog.bytesOf 107 = 24 := by kernel_rfl
theorem bytesW : Tryd.prog.bytesOf 21 = 4 := by kernel_rfl
theorem list8 {l : List Value} (h : l.length = 8) : ∃ a b c d e f g i, l = [a, b, c, d, e, f, g, i] := by
  match l, h with
  | [a, b, c, d, e, f, g, i], _ => exact ⟨a, b, c, d, e, f, g, i, rfl⟩
section
variable {H : Type} {enc : TypeId × Value → H} {w : World} {base : Nat} {sp : Nat → Bool} {held : Bool}
/-- what a row weighs -/
theorem row_weighs {t e : TypeId} {fuel bytes len cap : Nat} {a : Option Addr} {x : DataW H × List MemPlace} {R : Nat} (ht : Tryd.prog.underlying t = some (.slice e)) (hb : Tryd.prog.bytesOf e = bytes)
    (h : DataW.trod enc Tryd.prog w base sp held fuel t [.slice a len cap] = some x) (hR : ∀ m ∈ x.1.weights Tryd.prog t, m ≤ R) : len * bytes ≤ R := by
  rcases DataW.trod_slice ht h with ⟨h4, _⟩ | ⟨a', len', cap', elems, rest, n', _, h4, hx, _, hlc, hcm, hel, hel2, _, _⟩
  · injection h4 with h4
    injection h4 with _ h5 _
    rw [h5, Nat.zero_mul]; exact Nat.zero_le _
  · injection h4 with h4
    injection h4 with _ h6 _
    subst h6
    rw [hx] at hR
    have h9 := hR _ (by simp only [DataW.weights, ht]; exact List.mem_cons_self ..)
    rw [hb, List.length_map] at h9
    refine Nat.le_trans (Nat.mul_le_mul_right _ ?_) h9
    rw [hel]
    exact Nat.le_add_right _ _
theorem cont_weighs {fuel len cap : Nat} {a : Option Addr} {l : List (List Int)} {x : DataW H × List MemPlace} {R : Nat} (h : DataW.trod enc Tryd.prog w base sp held fuel 65 [.slice a len cap] = some x) (hc : ContAt w a l) (hl : l.length = len) (hR : ∀ m ∈ x.1.weights Tryd.prog 65, m ≤ R) :
    ∀ r ∈ l, r.length * 4 ≤ R := by
  intro r hr
  rcases hc.at_ with h0 | ⟨b, off, rfl, hk⟩
  · have := List.length_pos_of_mem hr
    omega
  · obtain ⟨k, hk2⟩ := List.getElem?_of_mem hr
    have hkl : k < len := by rw [← hl]; exact (List.getElem?_eq_some_iff.1 hk2).1
    obtain ⟨cs', y, n, hlen, hcell, ht, hm⟩ := rows_sized Tryd.underlying65 cells5 h hkl
    obtain ⟨ra, rc, h1, _, _⟩ := hk k r hk2
    have h2 := hcell 0 (by omega)
    rw [Nat.mul_one, Nat.add_zero, h1] at h2
    have e : cs' = [.slice ra r.length rc] := by
      match cs', hlen with
      | [c0], _ =>
        simp at h2
        rw [← h2]
    rw [e] at ht
    exact row_weighs Tryd.underlying66 bytesW ht (fun m hm2 => hR m (hm m hm2))
theorem fn_open {fuel : Nat} {cs : List Value} {x : DataW H × List MemPlace} (h : DataW.trod enc Tryd.prog w base sp held fuel 25 cs = some x) :
    ∃ (f : Fn) (aa ba : Option Addr) (ac bc : Nat), cs = [.string f.name, .int .i64 f.regs, .slice aa f.arrays.length ac, .slice ba f.blocks.length bc] ∧ FnAt w f aa ba := by
  obtain ⟨xs, n, _, rfl, hl, hxl, hff⟩ := DataW.trod_struct Tryd.underlying25 h
  rw [cellsF] at hl
  obtain ⟨c0, c1, c2, c3, rfl⟩ := list4 hl
  match xs, hxl with
  | [y0, y1, y2, y3], _ =>
    have h0 : DataW.trod enc Tryd.prog w base sp held n 9 (([c0, c1, c2, c3].drop 0).take (Tryd.prog.cellsOf 9)) = [y0, y1, y2, y3][0]? := hff 0 _ rfl
    have h1 : DataW.trod enc Tryd.prog w base sp held n 3 (([c0, c1, c2, c3].drop 1).take (Tryd.prog.cellsOf 3)) = [y0, y1, y2, y3][1]? := hff 1 _ rfl
    have h2 : DataW.trod enc Tryd.prog w base sp held n 22 (([c0, c1, c2, c3].drop 2).take (Tryd.prog.cellsOf 22)) = [y0, y1, y2, y3][2]? := hff 2 _ rfl
    have h3 : DataW.trod enc Tryd.prog w base sp held n 23 (([c0, c1, c2, c3].drop 3).take (Tryd.prog.cellsOf 23)) = [y0, y1, y2, y3][3]? := hff 3 _ rfl
    rw [cells1] at h0
    rw [cells2] at h1
    rw [cells6] at h2
    rw [cells8] at h3
    simp only [List.drop_zero, List.drop_succ_cons, List.take_succ_cons, List.take_zero, List.take_nil, List.getElem?_cons_zero, List.getElem?_cons_succ] at h0 h1 h2 h3
    obtain ⟨m0, e0, _, w0⟩ := DataW.trod_string Tryd.underlying9 h0
    obtain ⟨m1, e1, _, w1⟩ := DataW.trod_int Tryd.underlying3 h1
    obtain ⟨aa, al, ac, e2, haa⟩ := arrs_open h2
    obtain ⟨ba, bl, bc, e3, hba⟩ := blks_open h3
    cases e0; cases e1; cases e2; cases e3
    exact ⟨⟨m0, m1, al, bl⟩, aa, ba, ac, bc, rfl, haa, hba, wf64 w1, le_max w0⟩
theorem open_call {r : Reach} {b0 : Nat} {v : Value} {d : DataW H} {p : List MemPlace} (hv : Value.okWide Tryd.prog w r b0 68 v) (h : DataW.Trod enc Tryd.prog w base sp held 68 v d p) (hR : ∀ m ∈ d.weights Tryd.prog 68, m ≤ 140737488351232) :
    ∃ (f : Fn) (shared : List (ByteArray × Int)) (arrays objects : List (List Int)) (inp : List Int) (aa ba sa ara oba ia : Option Addr) (ac bc sc arc obc ic : Nat),
      v = callV f aa ac ba bc shared arrays objects inp sa sc ara arc oba obc ia ic ∧ FnAt w f aa ba ∧ CallAt w shared arrays objects inp sa ara oba ia ∧ CallSz shared arrays objects := by
  obtain ⟨cs, rfl, hsz⟩ := okWide_struct Tryd.underlying68 hv
  obtain ⟨fuel, hf⟩ := h
  obtain ⟨z1, n1, k1, w1⟩ := field_sized (i := 1) Tryd.underlying68 hf rfl
  obtain ⟨z2, n2, k2, w2⟩ := field_sized (i := 2) Tryd.underlying68 hf rfl
  obtain ⟨z3, n3, k3, w3⟩ := field_sized (i := 3) Tryd.underlying68 hf rfl
  obtain ⟨xs, n, _, _, hl, hxl, hff⟩ := DataW.trod_struct Tryd.underlying68 hf
  rw [cellsC] at hl hsz
  obtain ⟨cs⟩ := cs
  obtain ⟨c0, c1, c2, c3, c4, c5, c6, c7, rfl⟩ := list8 hsz
  have j1 : DataW.trod enc Tryd.prog w base sp held n1 22 (((Value.agg #[c0, c1, c2, c3, c4, c5, c6, c7]).cells.toList.drop 4).take (Tryd.prog.cellsOf 22)) = some z1 := k1
  have j2 : DataW.trod enc Tryd.prog w base sp held n2 65 (((Value.agg #[c0, c1, c2, c3, c4, c5, c6, c7]).cells.toList.drop 5).take (Tryd.prog.cellsOf 65)) = some z2 := k2
  have j3 : DataW.trod enc Tryd.prog w base sp held n3 65 (((Value.agg #[c0, c1, c2, c3, c4, c5, c6, c7]).cells.toList.drop 6).take (Tryd.prog.cellsOf 65)) = some z3 := k3
  match xs, hxl with
  | [y0, y1, y2, y3, y4], _ =>
    have h0 : DataW.trod enc Tryd.prog w base sp held n 25 (((Value.agg #[c0, c1, c2, c3, c4, c5, c6, c7]).cells.toList.drop 0).take (Tryd.prog.cellsOf 25)) = [y0, y1, y2, y3, y4][0]? := hff 0 _ rfl
    have h4 : DataW.trod enc Tryd.prog w base sp held n 66 (((Value.agg #[c0, c1, c2, c3, c4, c5, c6, c7]).cells.toList.drop 7).take (Tryd.prog.cellsOf 66)) = [y0, y1, y2, y3, y4][4]? := hff 4 _ rfl
    rw [cellsF] at h0
    rw [cells6] at j1
    rw [cells9] at j2 j3
    rw [cells5] at h4
    simp only [Value.cells, List.drop_zero, List.drop_succ_cons, List.take_succ_cons, List.take_zero, List.take_nil, List.getElem?_cons_zero, List.getElem?_cons_succ] at h0 j1 j2 j3 h4
    obtain ⟨f, aa, ba, ac, bc, e0, hfn⟩ := fn_open h0
    obtain ⟨sa, sl, sc, e1, hsh⟩ := arrs_open j1
    obtain ⟨ara, al, arc, e2, har⟩ := cont_open j2
    obtain ⟨oba, ol, obc, e3, hob⟩ := cont_open j3
    obtain ⟨ia, il, ic, e4, _, hin⟩ := words_open h4
    cases e0; cases e1; cases e2; cases e3; cases e4
    exact ⟨f, sl, al, ol, il, aa, ba, sa, ara, oba, ia, ac, bc, sc, arc, obc, ic, rfl, hfn, ⟨hsh, har, hob, hin⟩, ⟨row_weighs Tryd.underlying22 bytesA j1 (fun m hm => hR m (w1 m hm)), cont_weighs j2 har rfl (fun m hm => hR m (w2 m hm)), cont_weighs j3 hob rfl (fun m hm => hR m (w3 m hm))⟩⟩
end
end Go.Proofs.YteknhnnlhhgppaaDoor

/-
  slices.Insert in memory: copy onto a row whose elements have several cells; a block's code is replaced (layer 19). No program is named here.
-/
namespace Go.Proofs.YteknhnnlhhgppaaDoor
set_option linter.unusedVariables false
set_option linter.unusedSimpArgs false
open Go.RowKit
set_option maxRecDepth 100000

theorem run_copy_rowN {P : Program} (w : World) (dT sT ty elem : TypeId) (size g o dLen dCap : Nat) (a : Addr) (sLen sCap k : Nat) (cur : Array Value) (t : TypeId) (cs : List Value)
    (hu : P.underlying dT = some (.slice elem)) (hs : (P.info? elem).map (·.size) = some size)
    (hg : w.heap[g]? = some (.cells cur t (0, 0))) (hn : Nat.min sLen dLen = k) (hl : cs.length = k * size)
    (hsrc : ∀ j v, cs[j]? = some v → w.cell? (a.add j) = some v) (hfit : o + cs.length ≤ cur.size) (h1 : ∀ v ∈ cs, v.oneCell' = true) :
    (Builtin.copy_ #[dT, sT] ty #[.slice (some ⟨g, o, none⟩) dLen dCap, .slice (some a) sLen sCap]).run P w =
      .ok (goInt k) (w.setRow g (cur.toList.take o ++ cs ++ cur.toList.drop (o + cs.length)).toArray) := by
  have hload := run_loadCells_list (P := P) w a cs hsrc
  have hst := run_storeCells_at P g o t cs 0 cur w hg (by simpa using hfit) h1
  cases hq : P.info? elem with
  | none => simp [hq] at hs
  | some i =>
    have hi : i.size = size := by simpa [hq] using hs
    simp [Builtin.copy_, run_underlying hu, Builtin.lenOf, Builtin.firstCells, sizeOf, typeInfo, hq, hi, hn, ← hl, hload, hst]
theorem setRow_far {w : World} {g k : Nat} {cs : Array Value} (h : k ≠ g) : (w.setRow g cs).heap[k]? = w.heap[k]? := by
  unfold World.setRow
  simp only [Array.getElem?_modify]
  rw [if_neg (fun e => h e.symm)]
theorem setRow_size (w : World) (g : Nat) (cs : Array Value) : (w.setRow g cs).heap.size = w.heap.size := by
  unfold World.setRow
  simp
/-- cells put in at a place -/
def spl (xs : List Value) (i : Nat) (vs : List Value) : List Value := xs.take i ++ vs ++ xs.drop i
theorem spl_len {xs vs : List Value} {i : Nat} (h : i ≤ xs.length) : (spl xs i vs).length = xs.length + vs.length := by unfold spl; simp; omega
theorem take_of {α : Type} {l xs : List α} {n i : Nat} (h : l.take n = xs) (hi : i ≤ n) : l.take i = xs.take i := by
  rw [← h, List.take_take, Nat.min_eq_left hi]
/-- the row behind the two copies, as the operations leave it -/
theorem spl_shift {cur xs vs : List Value} {i n m : Nat} (hx : cur.take n = xs) (hl : xs.length = n) (hi : i ≤ n) (hm : vs.length = m) (hc : n + m ≤ cur.length) :
    ((((cur.take (i + m) ++ xs.drop i ++ cur.drop (i + m + (xs.drop i).length)).take i ++ vs ++ (cur.take (i + m) ++ xs.drop i ++ cur.drop (i + m + (xs.drop i).length)).drop (i + vs.length)).take (n + m)) = spl xs i vs) ∧
    ((cur.take (i + m) ++ xs.drop i ++ cur.drop (i + m + (xs.drop i).length)).take i ++ vs ++ (cur.take (i + m) ++ xs.drop i ++ cur.drop (i + m + (xs.drop i).length)).drop (i + vs.length)).length = cur.length := by
  have hdl : (xs.drop i).length = n - i := by rw [List.length_drop, hl]
  have e1 : (cur.take (i + m) ++ xs.drop i ++ cur.drop (i + m + (xs.drop i).length)).take i = xs.take i := by
    rw [List.append_assoc, List.take_append_of_le_length (by simp; omega), List.take_take, Nat.min_eq_left (by omega), take_of hx hi]
  have e2 : (cur.take (i + m) ++ xs.drop i ++ cur.drop (i + m + (xs.drop i).length)).drop (i + vs.length) = xs.drop i ++ cur.drop (n + m) := by
    rw [hm, List.append_assoc, List.drop_append_of_le_length (by simp; omega), List.drop_eq_nil_of_le (by simp; omega), List.nil_append, hdl]
    congr 2
    omega
  rw [e1, e2]
  refine ⟨?_, ?_⟩
  · unfold spl
    rw [← List.append_assoc, List.take_append_of_le_length (by simp; omega), List.take_of_length_le (by simp; omega)]
  · simp; omega
/-- the same for a new row: what was before the place, and zeros -/
theorem spl_grow {cur xs vs : List Value} {i n m : Nat} (hx : cur.take i = xs.take i) (hl : xs.length = n) (hi : i ≤ n) (hm : vs.length = m) (hc : n + m ≤ cur.length) :
    ((((cur.take i ++ vs ++ cur.drop (i + vs.length)).take (i + m) ++ xs.drop i ++ (cur.take i ++ vs ++ cur.drop (i + vs.length)).drop (i + m + (xs.drop i).length)).take (n + m)) = spl xs i vs) ∧
    ((cur.take i ++ vs ++ cur.drop (i + vs.length)).take (i + m) ++ xs.drop i ++ (cur.take i ++ vs ++ cur.drop (i + vs.length)).drop (i + m + (xs.drop i).length)).length = cur.length := by
  have hdl : (xs.drop i).length = n - i := by rw [List.length_drop, hl]
  have e1 : (cur.take i ++ vs ++ cur.drop (i + vs.length)).take (i + m) = xs.take i ++ vs := by
    rw [List.take_append_of_le_length (by simp; omega), List.take_of_length_le (by simp; omega), hx]
  rw [e1]
  refine ⟨?_, ?_⟩
  · rw [List.take_append_of_le_length (by simp; omega), List.take_of_length_le (by simp; omega)]
    rfl
  · simp; omega
theorem spl_end {xs vs : List Value} : spl xs xs.length vs = xs ++ vs := by unfold spl; simp
theorem codeCells_len (l : List Ins) : (codeCells l).length = l.length * 6 := flat_len Ins.cells_len l
theorem flat_take {α : Type} {f : α → List Value} {n : Nat} (hf : ∀ x, (f x).length = n) : ∀ (l : List α) (i : Nat), (l.flatMap f).take (i * n) = (l.take i).flatMap f ∧ (l.flatMap f).drop (i * n) = (l.drop i).flatMap f
  | [], i => by simp
  | x :: l, 0 => by simp
  | x :: l, i + 1 => by
    obtain ⟨h1, h2⟩ := flat_take hf l i
    have e : (i + 1) * n = (f x).length + i * n := by rw [hf, Nat.succ_mul, Nat.add_comm]
    refine ⟨?_, ?_⟩
    · rw [List.flatMap_cons, e, List.take_length_add_append, h1, List.take_succ_cons, List.flatMap_cons]
    · rw [List.flatMap_cons, e, List.drop_length_add_append, h2, List.drop_succ_cons]
theorem code_spl (l P : List Ins) (i : Nat) : spl (codeCells l) (i * 6) (codeCells P) = codeCells (l.take i ++ P ++ l.drop i) := by
  unfold spl codeCells
  rw [(flat_take Ins.cells_len l i).1, (flat_take Ins.cells_len l i).2, List.flatMap_append, List.flatMap_append]
section
variable {N : Nat} {T E : TypeId} {w w' : World} {v : Value} {l : List BlkP}
/-- a block's code is another one, in its own row or in a new one -/
theorem BlkOwn.putCode {V w2 : World} {g n c k gb cap : Nat} {p : BlkP} {code : List Ins} (h : BlkOwn N T E w (.slice (some ⟨g, 0, none⟩) n c) l) (hn : l.length = n) (hk : l[k]? = some p) (hB : Below w.heap.size w V) (hw : ∀ i ∈ code, i.Wf) (hs : code.length ≤ 1000000)
    (hg : V.grownBy w2 p.code.ownBlock) (ho : w2.ownsRow N E 6 (.slice (some ⟨gb, 0, none⟩) code.length cap) code.length (codeCells code)) (hp : p.code.ownBlock = some gb ∨ V.heap.size ≤ gb) :
    BlkOwn N T E (w2.setCell ⟨g, k * 5, none⟩ (.slice (some ⟨gb, 0, none⟩) code.length cap)) (.slice (some ⟨g, 0, none⟩) n c) (l.set k ⟨{ p.blk with code := code }, some ⟨gb, 0, none⟩, cap⟩) := by
  subst hn
  have hpm := List.mem_of_getElem? hk
  have hkl := (List.getElem?_eq_some_iff.1 hk).1
  have hVs := hB.size
  have hgi : N ≤ g ∧ g < w.heap.size := ownsRow_lt h.row rfl
  have hgp : p.code.ownBlock ≠ some g := fun e => by
    rcases h.apart p hpm with e1 | e1
    · rw [e] at e1; cases e1
    · exact e1 e.symm
  have hgg : g ≠ gb := fun e => by
    rcases hp with hp | hp
    · exact hgp (by rw [hp, e])
    · omega
  have old : ∀ b, b < w.heap.size → p.code.ownBlock ≠ some b → b ≠ g → (w2.setCell ⟨g, k * 5, none⟩ (.slice (some ⟨gb, 0, none⟩) code.length cap)).heap[b]? = w.heap[b]? := fun b hb h1 h2 =>
    (Below.heap_setCell _ _ _ _ h2).trans ((hg.block b (by omega) (fun e => h1 e.symm)).trans (hB.block b hb))
  have hcode : (BlkP.mk { p.blk with code := code } (some ⟨gb, 0, none⟩) cap).code = .slice (some ⟨gb, 0, none⟩) code.length cap := rfl
  refine ⟨?_, fun r hr => ?_, fun r hr => ?_, fun r hr => ?_, fun r hr => ?_, fun r hr => ?_, fun a b r s hr hs hab => ?_⟩
  · have hr2 : w2.ownsRow N T 5 (.slice (some ⟨g, 0, none⟩) l.length c) l.length (l.flatMap BlkP.cells) := ownsRow_move h.row (fun b hb hl => by
      cases hb
      exact (hg.block g (by omega) (fun e => hgp e.symm)).trans (hB.block g hl))
    have := ownsRow_set (j := k * 5 + 0) (u := .slice (some ⟨gb, 0, none⟩) code.length cap) hr2 (by omega)
    rw [flat_set (q := ⟨{ p.blk with code := code }, some ⟨gb, 0, none⟩, cap⟩) BlkP.cells_len hk (by omega) (by unfold BlkP.cells; simp)] at this
    rw [List.length_set]
    exact this
  · rcases List.mem_or_eq_of_mem_set hr with hr | rfl
    · exact h.wf r hr
    · exact ⟨(h.wf p hpm).k0, (h.wf p hpm).k1, (h.wf p hpm).x, (h.wf p hpm).to, (h.wf p hpm).els⟩
  · rcases List.mem_or_eq_of_mem_set hr with hr | rfl
    · exact h.iwf r hr
    · exact hw
  · rcases List.mem_or_eq_of_mem_set hr with hr | rfl
    · exact h.small r hr
    · exact hs
  · obtain ⟨j, hj⟩ := List.getElem?_of_mem hr
    rcases set_get hj with ⟨rfl, rfl⟩ | ⟨hne, hj⟩
    · rw [hcode]
      exact ownsRow_move ho (fun b hb _ => Below.heap_setCell _ _ _ _ (by cases hb; exact fun e => hgg e.symm))
    · have hrm := List.mem_of_getElem? hj
      refine ownsRow_move (h.code r hrm) (fun b hb hl => old b hl (fun e => ?_) ?_)
      · rcases h.each j k r p hj hk hne with e1 | e1
        · rw [hb] at e1; cases e1
        · exact e1 (by rw [hb, e])
      · rintro rfl
        rcases h.apart r hrm with e1 | e1
        · rw [hb] at e1; cases e1
        · exact e1 hb.symm
  · rcases List.mem_or_eq_of_mem_set hr with hr | rfl
    · exact h.apart r hr
    · rw [hcode]
      exact .inr (fun e => hgg (by injection e))
  · have fresh : ∀ {j : Nat} {r : BlkP}, l[j]? = some r → j ≠ k → r.code.ownBlock ≠ some gb := fun {j r} hj hne e => by
      rcases hp with hp | hp
      · rcases h.each j k r p hj hk hne with e1 | e1
        · rw [e] at e1; cases e1
        · exact e1 (by rw [e, hp])
      · have := (ownsRow_lt (h.code r (List.mem_of_getElem? hj)) e).2
        omega
    rcases set_get hr with ⟨e1, e2⟩ | ⟨h1, hr1⟩
    · rcases set_get hs with ⟨e3, _⟩ | ⟨h2, hs1⟩
      · exact absurd (e1.trans e3.symm) hab
      · rw [e2, hcode]
        exact .inr (fun e => fresh hs1 h2 e.symm)
    · rcases set_get hs with ⟨_, e4⟩ | ⟨h2, hs1⟩
      · rw [e4, hcode]
        exact .inr (fresh hr1 h1)
      · exact h.each a b r s hr1 hs1 hab
end
end Go.Proofs.YteknhnnlhhgppaaDoor
