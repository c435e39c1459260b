/-
  What the form's reach says of a function of the intermediate code that came in: its name and its symbols are short.
-/
import Derived.Test.YtjdfcpjlmfaaaaaIrOpen
import Derived.SizedLaws
namespace Go.Proofs.Ytjdfcpjlmfaaaaa
set_option linter.unusedVariables false
set_option linter.unusedSimpArgs false
open Go.ChangeShapes Go.WideShapes Go.ChangeAt Go.RowKit
set_option maxRecDepth 100000

theorem wfi8 {n : Int} (h : (Lit.int .i8 n).wf = true) : -128 ≤ n ∧ n ≤ 127 := by
  have : -128 ≤ n ∧ n ≤ 127 := by simpa [Lit.wf, IntKind.min, IntKind.max, IntKind.signed, IntKind.bits] using h
  exact this
section
variable {H : Type} {enc : TypeId × Value → H} {w : World} {base : Nat} {sp : Nat → Bool} {held : Bool}
theorem weights_all {P : Program} {e : TypeId} : ∀ {ds : List (DataW H)} {d : DataW H}, d ∈ ds → ∀ n ∈ d.weights P e, n ∈ DataW.weightsAll P e ds := by
  intro ds
  induction ds with
  | nil => intro d h; cases h
  | cons x ds ih =>
    intro d h n hn
    rw [DataW.weightsAll]
    rcases List.mem_cons.1 h with rfl | h
    · exact List.mem_append_left _ hn
    · exact List.mem_append_right _ (ih h n hn)
/-- an element of a row, with what it weighs -/
theorem rows_sized {t e : TypeId} {size fuel ab ao len cap : Nat} {x : DataW H × List MemPlace} (ht : Try.prog.underlying t = some (.slice e)) (hc : Try.prog.cellsOf e = size)
    (h : DataW.trod enc Try.prog w base sp held fuel t [.slice (some ⟨ab, ao, none⟩) len cap] = some x) {i : Nat} (hi : i < len) :
    ∃ (cs' : List Value) (y : DataW H × List MemPlace) (n : Nat), cs'.length = size ∧ (∀ o, o < size → w.cell? ⟨ab, ao + i * size + o, none⟩ = cs'[o]?) ∧ DataW.trod enc Try.prog w base sp held n e cs' = some y ∧ ∀ m ∈ y.1.weights Try.prog e, m ∈ x.1.weights Try.prog t := by
  rcases DataW.trod_slice ht h with ⟨h4, _⟩ | ⟨a, len', cap', elems, rest, n', _, h4, hx, _, hlc, hcm, hel, hel2, _, _⟩
  · injection h4 with h4
    injection h4 with h5
    cases h5
  · injection h4 with h4
    injection h4 with h5 h6 h7
    cases h5
    subst h6 h7
    have hi2 := hel2 i hi
    rw [hc] at hi2
    obtain ⟨y, hy⟩ : ∃ y, elems[i]? = some y := ⟨_, List.getElem?_eq_getElem (by omega)⟩
    rw [hy] at hi2
    obtain ⟨cs', hc1, hc2⟩ := Option.bind_eq_some_iff.1 hi2
    obtain ⟨_, hl, hcs⟩ := World.cells?_some hc1
    refine ⟨cs', y, n', hl, fun o ho => ?_, hc2, fun m hm => ?_⟩
    · have := hcs o ho
      have hadd : ((⟨ab, ao, none⟩ : Addr).add (i * size)).add o = ⟨ab, ao + i * size + o, none⟩ := by
        unfold Addr.add
        by_cases h1 : i * size = 0 <;> by_cases h2 : o = 0 <;> simp [h1, h2]
        all_goals omega
      rw [hadd] at this
      exact this
    · rw [hx]
      simp only [DataW.weights, ht]
      exact List.mem_cons_of_mem _ (List.mem_append_left _ (weights_all (List.mem_map_of_mem (List.mem_of_getElem? hy)) m hm))
/-- a field of a struct, with what it weighs -/
theorem field_sized {fs : Array Field} {t : TypeId} {fuel : Nat} {cs : List Value} {x : DataW H × List MemPlace} (ht : Try.prog.underlying t = some (.struct fs)) (h : DataW.trod enc Try.prog w base sp held fuel t cs = some x) {i : Nat} {f : Field} (hf : fs[i]? = some f) :
    ∃ (y : DataW H × List MemPlace) (n : Nat), DataW.trod enc Try.prog w base sp held n f.type ((cs.drop f.offset).take (Try.prog.cellsOf f.type)) = some y ∧ ∀ m ∈ y.1.weights Try.prog f.type, m ∈ x.1.weights Try.prog t := by
  obtain ⟨xs, n, _, hx, hl, hxl, hff⟩ := DataW.trod_struct ht h
  have hi : i < xs.length := by rw [hxl]; exact (Array.getElem?_eq_some_iff.1 hf).1
  refine ⟨xs[i], n, (hff i f hf).trans (List.getElem?_eq_getElem hi), fun m hm => ?_⟩
  rw [hx]
  simp only [DataW.weights, ht]
  refine DataW.weights_mem_each (j := i) (t := f.type) (d := xs[i].1) ?_ ?_ m hm
  · rw [List.getElem?_map, Array.getElem?_toList, hf]; rfl
  · rw [List.getElem?_map, List.getElem?_eq_getElem hi]; rfl
theorem str_sized {fuel : Nat} {s : ByteArray} {x : DataW H × List MemPlace} {R : Nat} (h : DataW.trod enc Try.prog w base sp held fuel 9 [.string s] = some x) (hR : ∀ m ∈ x.1.weights Try.prog 9, m ≤ R) : s.size ≤ R := by
  obtain ⟨s', e, hx, _⟩ := DataW.trod_string Try.underlying9 h
  injection e with e
  injection e with e
  subst e
  have := hR s.data.toList.length (by rw [hx]; simp [DataW.weights])
  simpa using this
theorem code_sized {fuel len cap : Nat} {a : Option Addr} {l : List Ins} {x : DataW H × List MemPlace} {R : Nat} (h : DataW.trod enc Try.prog w base sp held fuel 50 [.slice a len cap] = some x) (hc : CodeAt w a l) (hl : l.length = len) (hR : ∀ m ∈ x.1.weights Try.prog 50, m ≤ R) : ∀ i ∈ l, i.sym.size ≤ R := by
  intro i hi
  rcases hc.at_ with h0 | ⟨b, off, rfl, hk⟩
  · have := List.length_pos_of_mem hi
    omega
  · obtain ⟨k, hk2⟩ := List.getElem?_of_mem hi
    have hkl : k < len := by rw [← hl]; exact (List.getElem?_eq_some_iff.1 hk2).1
    obtain ⟨cs', y, n, hlen, hcell, ht, hm⟩ := rows_sized Try.underlying50 cellsI h hkl
    have h5 := (hk k i hk2).c5
    rw [hcell 5 (by omega)] at h5
    obtain ⟨z, n2, hz, hz2⟩ := field_sized (i := 5) Try.underlying60 ht rfl
    have e : (cs'.drop 5).take 1 = [.string i.sym] := by
      obtain ⟨c0, c1, c2, c3, c4, c5, rfl⟩ := list6 hlen
      simp at h5 ⊢
      exact h5
    refine str_sized (enc := enc) (w := w) (base := base) (sp := sp) (held := held) (R := R) (x := z) (fuel := n2) ?_ (fun m hm2 => hR m (hm m (hz2 m hm2)))
    have hz' : DataW.trod enc Try.prog w base sp held n2 9 ((cs'.drop 5).take (Try.prog.cellsOf 9)) = some z := hz
    rwa [cells1, e] at hz'
theorem blks_sized {fuel len cap : Nat} {a : Option Addr} {l : List Blk} {x : DataW H × List MemPlace} {R : Nat} (h : DataW.trod enc Try.prog w base sp held fuel 23 [.slice a len cap] = some x) (hc : BlksAt w a l) (hl : l.length = len) (hR : ∀ m ∈ x.1.weights Try.prog 23, m ≤ R) : ∀ b ∈ l, ∀ i ∈ b.code, i.sym.size ≤ R := by
  intro b hb
  rcases hc.at_ with h0 | ⟨bb, off, rfl, hk⟩
  · have := List.length_pos_of_mem hb
    omega
  · obtain ⟨k, hk2⟩ := List.getElem?_of_mem hb
    have hkl : k < len := by rw [← hl]; exact (List.getElem?_eq_some_iff.1 hk2).1
    obtain ⟨cs', y, n, hlen, hcell, ht, hm⟩ := rows_sized Try.underlying23 cellsB h hkl
    obtain ⟨ca, cc, hblk, hcode⟩ := hk k b hk2
    have h0 := hblk.c0
    have hc0 := hcell 0 (by omega)
    rw [Nat.add_zero] at hc0
    rw [hc0] at h0
    obtain ⟨z, n2, hz, hz2⟩ := field_sized (i := 0) Try.underlying52 ht rfl
    have e : (cs'.drop 0).take 1 = [.slice ca b.code.length cc] := by
      obtain ⟨c0, c1, c2, c3, c4, rfl⟩ := list5 hlen
      simp at h0 ⊢
      exact h0
    refine code_sized (enc := enc) (w := w) (base := base) (sp := sp) (held := held) (R := R) (x := z) (fuel := n2) (len := b.code.length) (cap := cc) ?_ hcode rfl (fun m hm2 => hR m (hm m (hz2 m hm2)))
    have hz' : DataW.trod enc Try.prog w base sp held n2 50 ((cs'.drop 0).take (Try.prog.cellsOf 50)) = some z := hz
    rwa [cells7, e] at hz'
theorem fn_sized {f : Fn} {aa ba : Option Addr} {ac bc : Nat} {d : DataW H} {p : List MemPlace} {R : Nat} (h : DataW.Trod enc Try.prog w base sp held 25 (fnVal f.name f.regs aa f.arrays.length ac ba f.blocks.length bc) d p) (hf : FnAt w f aa ba) (hR : ∀ m ∈ d.weights Try.prog 25, m ≤ R) :
    f.name.size ≤ R ∧ ∀ b ∈ f.blocks, ∀ i ∈ b.code, i.sym.size ≤ R := by
  obtain ⟨fuel, ht⟩ := h
  constructor
  · obtain ⟨z, n2, hz, hz2⟩ := field_sized (i := 0) Try.underlying25 ht rfl
    refine str_sized (enc := enc) (w := w) (base := base) (sp := sp) (held := held) (R := R) (x := z) (fuel := n2) ?_ (fun m hm2 => hR m (hz2 m hm2))
    have hz' : DataW.trod enc Try.prog w base sp held n2 9 ((((fnVal f.name f.regs aa f.arrays.length ac ba f.blocks.length bc).cells.toList).drop 0).take (Try.prog.cellsOf 9)) = some z := hz
    rw [cells1] at hz'
    exact hz'
  · obtain ⟨z, n2, hz, hz2⟩ := field_sized (i := 3) Try.underlying25 ht rfl
    refine blks_sized (enc := enc) (w := w) (base := base) (sp := sp) (held := held) (R := R) (x := z) (fuel := n2) (len := f.blocks.length) (cap := bc) ?_ hf.blocks rfl (fun m hm2 => hR m (hz2 m hm2))
    have hz' : DataW.trod enc Try.prog w base sp held n2 23 ((((fnVal f.name f.regs aa f.arrays.length ac ba f.blocks.length bc).cells.toList).drop 3).take (Try.prog.cellsOf 23)) = some z := hz
    rw [cells8] at hz'
    exact hz'
end
end Go.Proofs.Ytjdfcpjlmfaaaaa
