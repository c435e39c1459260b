/-
  Mg37: several texts in one (IrOpenS, CallOpen, LiveEq).
-/
import Derived.Test.YteknhnnlhhgppaaDoorIrOpen
import Derived.SizedLaws
import Derived.Test.YteknhnnlhhgppaaDoorBehave
import Derived.Test.YteknhnnlhhgppaaDoorLiveForm
import Derived.Test.YteknhnnlhhgppaaDoorLiveList
/-
  What the form's reach says of a function of the intermediate code that came in: its name and its symbols are short.
-/
namespace Go.Proofs.YteknhnnlhhgppaaDoor
set_option linter.unusedVariables false
set_option linter.unusedSimpArgs false
open Go.ChangeShapes Go.WideShapes Go.ChangeAt Go.RowKit
set_option maxRecDepth 100000

theorem wfi8 {n : Int} (h : (Lit.int .i8 n).wf = true) : -128 ≤ n ∧ n ≤ 127 := by
  have : -128 ≤ n ∧ n ≤ 127 := by simpa [Lit.wf, IntKind.min, IntKind.max, IntKind.signed, IntKind.bits] using h
  exact this
section
variable {H : Type} {enc : TypeId × Value → H} {w : World} {base : Nat} {sp : Nat → Bool} {held : Bool}
theorem weights_all {P : Program} {e : TypeId} : ∀ {ds : List (DataW H)} {d : DataW H}, d ∈ ds → ∀ n ∈ d.weights P e, n ∈ DataW.weightsAll P e ds := by
  intro ds
  induction ds with
  | nil => intro d h; cases h
  | cons x ds ih =>
    intro d h n hn
    rw [DataW.weightsAll]
    rcases List.mem_cons.1 h with rfl | h
    · exact List.mem_append_left _ hn
    · exact List.mem_append_right _ (ih h n hn)
/-- an element of a row, with what it weighs -/
theorem rows_sized {t e : TypeId} {size fuel ab ao len cap : Nat} {x : DataW H × List MemPlace} (ht : Tryd.prog.underlying t = some (.slice e)) (hc : Tryd.prog.cellsOf e = size)
    (h : DataW.trod enc Tryd.prog w base sp held fuel t [.slice (some ⟨ab, ao, none⟩) len cap] = some x) {i : Nat} (hi : i < len) :
    ∃ (cs' : List Value) (y : DataW H × List MemPlace) (n : Nat), cs'.length = size ∧ (∀ o, o < size → w.cell? ⟨ab, ao + i * size + o, none⟩ = cs'[o]?) ∧ DataW.trod enc Tryd.prog w base sp held n e cs' = some y ∧ ∀ m ∈ y.1.weights Tryd.prog e, m ∈ x.1.weights Tryd.prog t := by
  rcases DataW.trod_slice ht h with ⟨h4, _⟩ | ⟨a, len', cap', elems, rest, n', _, h4, hx, _, hlc, hcm, hel, hel2, _, _⟩
  · injection h4 with h4
    injection h4 with h5
    cases h5
  · injection h4 with h4
    injection h4 with h5 h6 h7
    cases h5
    subst h6 h7
    have hi2 := hel2 i hi
    rw [hc] at hi2
    obtain ⟨y, hy⟩ : ∃ y, elems[i]? = some y := ⟨_, List.getElem?_eq_getElem (by omega)⟩
    rw [hy] at hi2
    obtain ⟨cs', hc1, hc2⟩ := Option.bind_eq_some_iff.1 hi2
    obtain ⟨_, hl, hcs⟩ := World.cells?_some hc1
    refine ⟨cs', y, n', hl, fun o ho => ?_, hc2, fun m hm => ?_⟩
    · have := hcs o ho
      have hadd : ((⟨ab, ao, none⟩ : Addr).add (i * size)).add o = ⟨ab, ao + i * size + o, none⟩ := by
        unfold Addr.add
        by_cases h1 : i * size = 0 <;> by_cases h2 : o = 0 <;> simp [h1, h2]
        all_goals omega
      rw [hadd] at this
      exact this
    · rw [hx]
      simp only [DataW.weights, ht]
      exact List.mem_cons_of_mem _ (List.mem_append_left _ (weights_all (List.mem_map_of_mem (List.mem_of_getElem? hy)) m hm))
/-- a field of a struct, with what it weighs -/
theorem field_sized {fs : Array Field} {t : TypeId} {fuel : Nat} {cs : List Value} {x : DataW H × List MemPlace} (ht : Tryd.prog.underlying t = some (.struct fs)) (h : DataW.trod enc Tryd.prog w base sp held fuel t cs = some x) {i : Nat} {f : Field} (hf : fs[i]? = some f) :
    ∃ (y : DataW H × List MemPlace) (n : Nat), DataW.trod enc Tryd.prog w base sp held n f.type ((cs.drop f.offset).take (Tryd.prog.cellsOf f.type)) = some y ∧ ∀ m ∈ y.1.weights Tryd.prog f.type, m ∈ x.1.weights Tryd.prog t := by
  obtain ⟨xs, n, _, hx, hl, hxl, hff⟩ := DataW.trod_struct ht h
  have hi : i < xs.length := by rw [hxl]; exact (Array.getElem?_eq_some_iff.1 hf).1
  refine ⟨xs[i], n, (hff i f hf).trans (List.getElem?_eq_getElem hi), fun m hm => ?_⟩
  rw [hx]
  simp only [DataW.weights, ht]
  refine DataW.weights_mem_each (j := i) (t := f.type) (d := xs[i].1) ?_ ?_ m hm
  · rw [List.getElem?_map, Array.getElem?_toList, hf]; rfl
  · rw [List.getElem?_map, List.getElem?_eq_getElem hi]; rfl
theorem str_sized {fuel : Nat} {s : ByteArray} {x : DataW H × List MemPlace} {R : Nat} (h : DataW.trod enc Tryd.prog w base sp held fuel 9 [.string s] = some x) (hR : ∀ m ∈ x.1.weights Tryd.prog 9, m ≤ R) : s.size ≤ R := by
  obtain ⟨s', e, hx, _⟩ := DataW.trod_string Tryd.underlying9 h
  injection e with e
  injection e with e
  subst e
  have := hR s.data.toList.length (by rw [hx]; simp [DataW.weights])
  simpa using this
theorem code_sized {fuel len cap : Nat} {a : Option Addr} {l : List Ins} {x : DataW H × List MemPlace} {R : Nat} (h : DataW.trod enc Tryd.prog w base sp held fuel 41 [.slice a len cap] = some x) (hc : CodeAt w a l) (hl : l.length = len) (hR : ∀ m ∈ x.1.weights Tryd.prog 41, m ≤ R) : ∀ i ∈ l, i.sym.size ≤ R := by
  intro i hi
  rcases hc.at_ with h0 | ⟨b, off, rfl, hk⟩
  · have := List.length_pos_of_mem hi
    omega
  · obtain ⟨k, hk2⟩ := List.getElem?_of_mem hi
    have hkl : k < len := by rw [← hl]; exact (List.getElem?_eq_some_iff.1 hk2).1
    obtain ⟨cs', y, n, hlen, hcell, ht, hm⟩ := rows_sized Tryd.underlying41 cellsI h hkl
    have h5 := (hk k i hk2).c5
    rw [hcell 5 (by omega)] at h5
    obtain ⟨z, n2, hz, hz2⟩ := field_sized (i := 5) Tryd.underlying54 ht rfl
    have e : (cs'.drop 5).take 1 = [.string i.sym] := by
      obtain ⟨c0, c1, c2, c3, c4, c5, rfl⟩ := list6 hlen
      simp at h5 ⊢
      exact h5
    refine str_sized (enc := enc) (w := w) (base := base) (sp := sp) (held := held) (R := R) (x := z) (fuel := n2) ?_ (fun m hm2 => hR m (hm m (hz2 m hm2)))
    have hz' : DataW.trod enc Tryd.prog w base sp held n2 9 ((cs'.drop 5).take (Tryd.prog.cellsOf 9)) = some z := hz
    rwa [cells1, e] at hz'
theorem blks_sized {fuel len cap : Nat} {a : Option Addr} {l : List Blk} {x : DataW H × List MemPlace} {R : Nat} (h : DataW.trod enc Tryd.prog w base sp held fuel 23 [.slice a len cap] = some x) (hc : BlksAt w a l) (hl : l.length = len) (hR : ∀ m ∈ x.1.weights Tryd.prog 23, m ≤ R) : ∀ b ∈ l, ∀ i ∈ b.code, i.sym.size ≤ R := by
  intro b hb
  rcases hc.at_ with h0 | ⟨bb, off, rfl, hk⟩
  · have := List.length_pos_of_mem hb
    omega
  · obtain ⟨k, hk2⟩ := List.getElem?_of_mem hb
    have hkl : k < len := by rw [← hl]; exact (List.getElem?_eq_some_iff.1 hk2).1
    obtain ⟨cs', y, n, hlen, hcell, ht, hm⟩ := rows_sized Tryd.underlying23 cellsB h hkl
    obtain ⟨ca, cc, hblk, hcode⟩ := hk k b hk2
    have h0 := hblk.c0
    have hc0 := hcell 0 (by omega)
    rw [Nat.add_zero] at hc0
    rw [hc0] at h0
    obtain ⟨z, n2, hz, hz2⟩ := field_sized (i := 0) Tryd.underlying43 ht rfl
    have e : (cs'.drop 0).take 1 = [.slice ca b.code.length cc] := by
      obtain ⟨c0, c1, c2, c3, c4, rfl⟩ := list5 hlen
      simp at h0 ⊢
      exact h0
    refine code_sized (enc := enc) (w := w) (base := base) (sp := sp) (held := held) (R := R) (x := z) (fuel := n2) (len := b.code.length) (cap := cc) ?_ hcode rfl (fun m hm2 => hR m (hm m (hz2 m hm2)))
    have hz' : DataW.trod enc Tryd.prog w base sp held n2 41 ((cs'.drop 0).take (Tryd.prog.cellsOf 41)) = some z := hz
    rwa [cells7, e] at hz'
theorem fn_sized {f : Fn} {aa ba : Option Addr} {ac bc : Nat} {d : DataW H} {p : List MemPlace} {R : Nat} (h : DataW.Trod enc Tryd.prog w base sp held 25 (fnVal f.name f.regs aa f.arrays.length ac ba f.blocks.length bc) d p) (hf : FnAt w f aa ba) (hR : ∀ m ∈ d.weights Tryd.prog 25, m ≤ R) :
    f.name.size ≤ R ∧ ∀ b ∈ f.blocks, ∀ i ∈ b.code, i.sym.size ≤ R := by
  obtain ⟨fuel, ht⟩ := h
  constructor
  · obtain ⟨z, n2, hz, hz2⟩ := field_sized (i := 0) Tryd.underlying25 ht rfl
    refine str_sized (enc := enc) (w := w) (base := base) (sp := sp) (held := held) (R := R) (x := z) (fuel := n2) ?_ (fun m hm2 => hR m (hz2 m hm2))
    have hz' : DataW.trod enc Tryd.prog w base sp held n2 9 ((((fnVal f.name f.regs aa f.arrays.length ac ba f.blocks.length bc).cells.toList).drop 0).take (Tryd.prog.cellsOf 9)) = some z := hz
    rw [cells1] at hz'
    exact hz'
  · obtain ⟨z, n2, hz, hz2⟩ := field_sized (i := 3) Tryd.underlying25 ht rfl
    refine blks_sized (enc := enc) (w := w) (base := base) (sp := sp) (held := held) (R := R) (x := z) (fuel := n2) (len := f.blocks.length) (cap := bc) ?_ hf.blocks rfl (fun m hm2 => hR m (hz2 m hm2))
    have hz' : DataW.trod enc Tryd.prog w base sp held n2 23 ((((fnVal f.name f.regs aa f.arrays.length ac ba f.blocks.length bc).cells.toList).drop 3).take (Tryd.prog.cellsOf 23)) = some z := hz
    rw [cells8] at hz'
    exact hz'
end
end Go.Proofs.YteknhnnlhhgppaaDoor

/-
  A call of package ontimelaw19 that reads as data lies in memory as one; its rows fit into a memory.
-/
namespace Go.Proofs.YteknhnnlhhgppaaDoor
set_option linter.unusedVariables false
set_option linter.unusedSimpArgs false
open Go.ChangeShapes Go.WideShapes Go.ChangeAt Go.RowKit
set_option maxRecDepth 100000

theorem cellsC : Tryd.prog.cellsOf 68 = 8 := by kernel_rfl
theorem cells9 : Tryd.prog.cellsOf 65 = 1 := by kernel_rfl
theorem bytesA : Tryd.prog.bytesOf 107 = 24 := by kernel_rfl
theorem bytesW : Tryd.prog.bytesOf 21 = 4 := by kernel_rfl
theorem list8 {l : List Value} (h : l.length = 8) : ∃ a b c d e f g i, l = [a, b, c, d, e, f, g, i] := by
  match l, h with
  | [a, b, c, d, e, f, g, i], _ => exact ⟨a, b, c, d, e, f, g, i, rfl⟩
section
variable {H : Type} {enc : TypeId × Value → H} {w : World} {base : Nat} {sp : Nat → Bool} {held : Bool}
/-- what a row weighs -/
theorem row_weighs {t e : TypeId} {fuel bytes len cap : Nat} {a : Option Addr} {x : DataW H × List MemPlace} {R : Nat} (ht : Tryd.prog.underlying t = some (.slice e)) (hb : Tryd.prog.bytesOf e = bytes)
    (h : DataW.trod enc Tryd.prog w base sp held fuel t [.slice a len cap] = some x) (hR : ∀ m ∈ x.1.weights Tryd.prog t, m ≤ R) : len * bytes ≤ R := by
  rcases DataW.trod_slice ht h with ⟨h4, _⟩ | ⟨a', len', cap', elems, rest, n', _, h4, hx, _, hlc, hcm, hel, hel2, _, _⟩
  · injection h4 with h4
    injection h4 with _ h5 _
    rw [h5, Nat.zero_mul]; exact Nat.zero_le _
  · injection h4 with h4
    injection h4 with _ h6 _
    subst h6
    rw [hx] at hR
    have h9 := hR _ (by simp only [DataW.weights, ht]; exact List.mem_cons_self ..)
    rw [hb, List.length_map] at h9
    refine Nat.le_trans (Nat.mul_le_mul_right _ ?_) h9
    rw [hel]
    exact Nat.le_add_right _ _
theorem cont_weighs {fuel len cap : Nat} {a : Option Addr} {l : List (List Int)} {x : DataW H × List MemPlace} {R : Nat} (h : DataW.trod enc Tryd.prog w base sp held fuel 65 [.slice a len cap] = some x) (hc : ContAt w a l) (hl : l.length = len) (hR : ∀ m ∈ x.1.weights Tryd.prog 65, m ≤ R) :
    ∀ r ∈ l, r.length * 4 ≤ R := by
  intro r hr
  rcases hc.at_ with h0 | ⟨b, off, rfl, hk⟩
  · have := List.length_pos_of_mem hr
    omega
  · obtain ⟨k, hk2⟩ := List.getElem?_of_mem hr
    have hkl : k < len := by rw [← hl]; exact (List.getElem?_eq_some_iff.1 hk2).1
    obtain ⟨cs', y, n, hlen, hcell, ht, hm⟩ := rows_sized Tryd.underlying65 cells5 h hkl
    obtain ⟨ra, rc, h1, _, _⟩ := hk k r hk2
    have h2 := hcell 0 (by omega)
    rw [Nat.mul_one, Nat.add_zero, h1] at h2
    have e : cs' = [.slice ra r.length rc] := by
      match cs', hlen with
      | [c0], _ =>
        simp at h2
        rw [← h2]
    rw [e] at ht
    exact row_weighs Tryd.underlying66 bytesW ht (fun m hm2 => hR m (hm m hm2))
theorem fn_open {fuel : Nat} {cs : List Value} {x : DataW H × List MemPlace} (h : DataW.trod enc Tryd.prog w base sp held fuel 25 cs = some x) :
    ∃ (f : Fn) (aa ba : Option Addr) (ac bc : Nat), cs = [.string f.name, .int .i64 f.regs, .slice aa f.arrays.length ac, .slice ba f.blocks.length bc] ∧ FnAt w f aa ba := by
  obtain ⟨xs, n, _, rfl, hl, hxl, hff⟩ := DataW.trod_struct Tryd.underlying25 h
  rw [cellsF] at hl
  obtain ⟨c0, c1, c2, c3, rfl⟩ := list4 hl
  match xs, hxl with
  | [y0, y1, y2, y3], _ =>
    have h0 : DataW.trod enc Tryd.prog w base sp held n 9 (([c0, c1, c2, c3].drop 0).take (Tryd.prog.cellsOf 9)) = [y0, y1, y2, y3][0]? := hff 0 _ rfl
    have h1 : DataW.trod enc Tryd.prog w base sp held n 3 (([c0, c1, c2, c3].drop 1).take (Tryd.prog.cellsOf 3)) = [y0, y1, y2, y3][1]? := hff 1 _ rfl
    have h2 : DataW.trod enc Tryd.prog w base sp held n 22 (([c0, c1, c2, c3].drop 2).take (Tryd.prog.cellsOf 22)) = [y0, y1, y2, y3][2]? := hff 2 _ rfl
    have h3 : DataW.trod enc Tryd.prog w base sp held n 23 (([c0, c1, c2, c3].drop 3).take (Tryd.prog.cellsOf 23)) = [y0, y1, y2, y3][3]? := hff 3 _ rfl
    rw [cells1] at h0
    rw [cells2] at h1
    rw [cells6] at h2
    rw [cells8] at h3
    simp only [List.drop_zero, List.drop_succ_cons, List.take_succ_cons, List.take_zero, List.take_nil, List.getElem?_cons_zero, List.getElem?_cons_succ] at h0 h1 h2 h3
    obtain ⟨m0, e0, _, w0⟩ := DataW.trod_string Tryd.underlying9 h0
    obtain ⟨m1, e1, _, w1⟩ := DataW.trod_int Tryd.underlying3 h1
    obtain ⟨aa, al, ac, e2, haa⟩ := arrs_open h2
    obtain ⟨ba, bl, bc, e3, hba⟩ := blks_open h3
    cases e0; cases e1; cases e2; cases e3
    exact ⟨⟨m0, m1, al, bl⟩, aa, ba, ac, bc, rfl, haa, hba, wf64 w1, le_max w0⟩
theorem open_call {r : Reach} {b0 : Nat} {v : Value} {d : DataW H} {p : List MemPlace} (hv : Value.okWide Tryd.prog w r b0 68 v) (h : DataW.Trod enc Tryd.prog w base sp held 68 v d p) (hR : ∀ m ∈ d.weights Tryd.prog 68, m ≤ 140737488351232) :
    ∃ (f : Fn) (shared : List (ByteArray × Int)) (arrays objects : List (List Int)) (inp : List Int) (aa ba sa ara oba ia : Option Addr) (ac bc sc arc obc ic : Nat),
      v = callV f aa ac ba bc shared arrays objects inp sa sc ara arc oba obc ia ic ∧ FnAt w f aa ba ∧ CallAt w shared arrays objects inp sa ara oba ia ∧ CallSz shared arrays objects := by
  obtain ⟨cs, rfl, hsz⟩ := okWide_struct Tryd.underlying68 hv
  obtain ⟨fuel, hf⟩ := h
  obtain ⟨z1, n1, k1, w1⟩ := field_sized (i := 1) Tryd.underlying68 hf rfl
  obtain ⟨z2, n2, k2, w2⟩ := field_sized (i := 2) Tryd.underlying68 hf rfl
  obtain ⟨z3, n3, k3, w3⟩ := field_sized (i := 3) Tryd.underlying68 hf rfl
  obtain ⟨xs, n, _, _, hl, hxl, hff⟩ := DataW.trod_struct Tryd.underlying68 hf
  rw [cellsC] at hl hsz
  obtain ⟨cs⟩ := cs
  obtain ⟨c0, c1, c2, c3, c4, c5, c6, c7, rfl⟩ := list8 hsz
  have j1 : DataW.trod enc Tryd.prog w base sp held n1 22 (((Value.agg #[c0, c1, c2, c3, c4, c5, c6, c7]).cells.toList.drop 4).take (Tryd.prog.cellsOf 22)) = some z1 := k1
  have j2 : DataW.trod enc Tryd.prog w base sp held n2 65 (((Value.agg #[c0, c1, c2, c3, c4, c5, c6, c7]).cells.toList.drop 5).take (Tryd.prog.cellsOf 65)) = some z2 := k2
  have j3 : DataW.trod enc Tryd.prog w base sp held n3 65 (((Value.agg #[c0, c1, c2, c3, c4, c5, c6, c7]).cells.toList.drop 6).take (Tryd.prog.cellsOf 65)) = some z3 := k3
  match xs, hxl with
  | [y0, y1, y2, y3, y4], _ =>
    have h0 : DataW.trod enc Tryd.prog w base sp held n 25 (((Value.agg #[c0, c1, c2, c3, c4, c5, c6, c7]).cells.toList.drop 0).take (Tryd.prog.cellsOf 25)) = [y0, y1, y2, y3, y4][0]? := hff 0 _ rfl
    have h4 : DataW.trod enc Tryd.prog w base sp held n 66 (((Value.agg #[c0, c1, c2, c3, c4, c5, c6, c7]).cells.toList.drop 7).take (Tryd.prog.cellsOf 66)) = [y0, y1, y2, y3, y4][4]? := hff 4 _ rfl
    rw [cellsF] at h0
    rw [cells6] at j1
    rw [cells9] at j2 j3
    rw [cells5] at h4
    simp only [Value.cells, List.drop_zero, List.drop_succ_cons, List.take_succ_cons, List.take_zero, List.take_nil, List.getElem?_cons_zero, List.getElem?_cons_succ] at h0 j1 j2 j3 h4
    obtain ⟨f, aa, ba, ac, bc, e0, hfn⟩ := fn_open h0
    obtain ⟨sa, sl, sc, e1, hsh⟩ := arrs_open j1
    obtain ⟨ara, al, arc, e2, har⟩ := cont_open j2
    obtain ⟨oba, ol, obc, e3, hob⟩ := cont_open j3
    obtain ⟨ia, il, ic, e4, _, hin⟩ := words_open h4
    cases e0; cases e1; cases e2; cases e3; cases e4
    exact ⟨f, sl, al, ol, il, aa, ba, sa, ara, oba, ia, ac, bc, sc, arc, obc, ic, rfl, hfn, ⟨hsh, har, hob, hin⟩, ⟨row_weighs Tryd.underlying22 bytesA j1 (fun m hm => hR m (w1 m hm)), cont_weighs j2 har rfl (fun m hm => hR m (w2 m hm)), cont_weighs j3 hob rfl (fun m hm => hR m (w3 m hm))⟩⟩
end
end Go.Proofs.YteknhnnlhhgppaaDoor

/-
  Contracts: slices.Equal of ints; small, ins (package ontimelaw19).
-/
namespace Go.Proofs.YteknhnnlhhgppaaDoor
set_option linter.unusedVariables false
set_option linter.unusedSimpArgs false
open Go.RowKit
set_option maxRecDepth 100000
set_option maxHeartbeats 4000000

/-- a slice of ints, wherever it lies -/
def IntsAt (w : World) (v : Value) (l : List Int) : Prop :=
  ∃ a c, v = .slice a l.length c ∧ (l.length = 0 ∨ ∃ b off, a = some ⟨b, off, none⟩ ∧ b < w.heap.size ∧ ∀ (i : Nat) (x : Int), l[i]? = some x → w.cell? ⟨b, off + i, none⟩ = some (.int .i64 x))
theorem IntsAt.below {w w' : World} {v : Value} {l : List Int} (h : IntsAt w v l) (hB : Below w.heap.size w w') : IntsAt w' v l := by
  obtain ⟨a, c, rfl, h⟩ := h
  refine ⟨a, c, rfl, ?_⟩
  rcases h with h | ⟨b, off, ha, hb, hc⟩
  · exact .inl h
  · exact .inr ⟨b, off, ha, Nat.lt_of_lt_of_le hb hB.size, fun i x hx => cell_below hB (hc i x hx)⟩
theorem IntRow.at_ {B : Nat} {w : World} {v : Value} {l : List Int} (h : IntRow B w v l) : IntsAt w v l := by
  obtain ⟨a, c, rfl⟩ := h.val
  refine ⟨a, c, rfl, ?_⟩
  rcases Nat.eq_zero_or_pos l.length with h0 | h0
  · exact .inl h0
  · obtain ⟨g, rfl, _, hg, _⟩ := own_some h h0
    exact .inr ⟨g, 0, rfl, hg, fun i x hx => by rw [Nat.zero_add]; exact own_cell h (by rw [List.getElem?_map, hx]; rfl)⟩
theorem IntsIn.at_ {S : Nat → Prop} {w : World} {v : Value} {l : List Int} (h : IntsIn S w v l) : IntsAt w v l := by
  rcases h with ⟨rfl, rfl⟩ | ⟨b, off, cap, rfl, _, _, hb, hk⟩
  · exact ⟨none, 0, rfl, .inl rfl⟩
  · refine ⟨_, cap, rfl, .inr ⟨b, off, rfl, hb, fun i x hx => ?_⟩⟩
    obtain ⟨hi, rfl⟩ := List.getElem?_eq_some_iff.1 hx
    rw [hk i hi]
    simp [hi]
theorem drewN_add {w : World} {a b : Nat} : (w.drewN a).drewN b = w.drewN (a + b) := by unfold World.drewN; simp [Nat.add_assoc]
theorem intsEqual_any (l m : List Int) (va vb : Value) (w : World) (ha : IntsAt w va l) (hb : IntsAt w vb m) (hl : l.length ≤ 1000000) (hm : m.length ≤ 1000000) :
    Calls Tryd.prog 16 #[va, vb] w fun e w' => e = .returned (.bool (decide (l = m))) ∧ ∃ k, w' = World.drewN w k := by
  obtain ⟨a, c, rfl, hla⟩ := ha
  obtain ⟨b, d, rfl, hlb⟩ := hb
  have HLA := Lib.hid hla
  have HLB := Lib.hid hlb
  clear hla hlb
  by_cases hlen : l.length = m.length
  · obtain ⟨n, hn⟩ : ∃ n, l.length = n := ⟨_, rfl⟩
    have HN := Lib.hid hn
    have HM : Hid (m.length = n) := by show _ = _; omega
    rw [← hlen, hn]
    rw [hn] at hl
    clear hlen hn hm
    go_enter Tryd.func16, Tryd.ntmps16
    go_wp2_with fail
    go_loopw [13] (fun i wr => ∃ j : Nat, j ≤ n ∧ i = .int .i64 (j : Int) ∧ l.take j = m.take j ∧ ∃ k, wr = World.drewN w k) (fun i _ => n - (intOf i).toNat)
    case atStart => exact ⟨0, Nat.zero_le _, rfl, by simp, 0, rfl⟩
    case round =>
      obtain ⟨j, hj, rfl, htk, k, hk⟩ := hrel
      have HTK := Lib.hid htk
      have HK := Lib.hid hk
      have HB : Hid (Below w.heap.size w wr) := by show Below _ _ _; rw [hk]; exact ⟨rfl, rfl, rfl, Nat.le_refl _, fun _ _ => rfl⟩
      have hj0 : (0 : Int) ≤ (j : Int) := by omega
      clear htk hk
      by_cases hlt : j < n
      · have hlt2 : (j : Int) < (n : Int) := by omega
        obtain ⟨x, hx⟩ : ∃ x, l[j]? = some x := ⟨_, List.getElem?_eq_getElem (by rw [HN.out]; exact hlt)⟩
        obtain ⟨y, hy⟩ : ∃ y, m[j]? = some y := ⟨_, List.getElem?_eq_getElem (by rw [HM.out]; exact hlt)⟩
        rcases HLA.out with h0 | ⟨lb, lo, rfl, _, hc⟩
        · have := HN.out; omega
        rcases HLB.out with h0 | ⟨mb, mo, rfl, _, hd⟩
        · have := HM.out; omega
        have c1 := cell_below HB.out (hc j x hx)
        have c2 := cell_below HB.out (hd j y hy)
        have HXY := Lib.hid (And.intro hx hy)
        clear hc hd hx hy
        by_cases hxy : x = y
        · have e2 : (x != y) = false := by simp [hxy]
          have HNX : Hid (l.take (j + 1) = m.take (j + 1)) := by show _ = _; rw [take_snoc HXY.out.1, take_snoc HXY.out.2, HTK.out, hxy]
          clear hxy
          go_wp2_with fail
          go_quiet (fail)
          go_wp2_with fail
          refine ⟨⟨j + 1, by omega, by go_num, HNX.out, ?_⟩, by simp [intOf]; omega⟩
          rw [HK.out]
          exact ⟨_, drewN_add⟩
        · have e2 : (x != y) = true := by simp [hxy]
          have hne : decide (l = m) = false := by
            rw [decide_eq_false_iff_not]
            intro e
            have h9 := HXY.out
            rw [e, h9.2] at h9
            exact hxy (Option.some.inj h9.1).symm
          have HNE := Lib.hid hne
          clear hxy hne
          go_wp2_with fail
          go_quiet (fail)
          go_wp2_with fail
          go_ret
          rw [HNE.out, HK.out]
          exact ⟨rfl, _, drewN_add⟩
      · obtain rfl : n = j := by omega
        have heq : decide (l = m) = true := by
          have h9 := HTK.out
          rw [List.take_of_length_le (by rw [HN.out]; exact Nat.le_refl _), List.take_of_length_le (by rw [HM.out]; exact Nat.le_refl _)] at h9
          simpa using h9
        have HEQ := Lib.hid heq
        clear heq
        go_wp2_with fail
        go_ret
        exact ⟨by rw [HEQ.out]; rfl, _, HK.out⟩
  · have hne : decide (l = m) = false := by
      rw [decide_eq_false_iff_not]
      intro e
      exact hlen (by rw [e])
    have e2 : ((l.length : Int) != (m.length : Int)) = true := by simp; omega
    rw [hne]
    clear hlen hne
    go_enter Tryd.func16, Tryd.ntmps16
    go_wp2_with fail
    go_ret
    exact ⟨rfl, 0, rfl⟩
theorem ins_any (op dst x y imm : Int) (w : World) :
    Calls Tryd.prog 27 #[.int .u8 op, .int .i64 dst, .int .i64 x, .int .i64 y, .int .i64 imm] w fun e w' => e = .returned (.agg #[.int .u8 op, .int .i64 dst, .int .i64 x, .int .i64 y, .int .i64 imm, .string ⟨#[]⟩]) ∧ Below w.heap.size w w' := by
  go_enter Tryd.func27, Tryd.ntmps27
  go_wp2_with fail
  exact bodyPost_ret (v := .agg #[.int .u8 op, .int .i64 dst, .int .i64 x, .int .i64 y, .int .i64 imm, .string ⟨#[]⟩]) (by simp [results, Tryd.results27, go_sem]) rfl ⟨rfl, (Below.refl _ _).alloc (Nat.le_refl _) _⟩
/-- a function that is small -/
structure SmallF (f : Fn) : Prop where
  bl : f.blocks.length ≤ 10
  rg : f.regs ≤ 12
  cd : ∀ b ∈ f.blocks, b.code.length ≤ 20
theorem small_any (f : Fn) (aa ba : Option Addr) (ac bc : Nat) (w : World) (hf : FnAt w f aa ba) :
    Calls Tryd.prog 11 #[fnVal f.name f.regs aa f.arrays.length ac ba f.blocks.length bc] w (Tells (SmallF f) w) := by
  have HF := Lib.hid hf
  have hfits := hf.blocks.fits
  obtain ⟨n, hn⟩ : ∃ n, f.blocks.length = n := ⟨_, rfl⟩
  have HN := Lib.hid hn
  obtain ⟨W, hW⟩ : ∃ W : World, w.alloc (.cells #[.string f.name, .int .i64 f.regs, .slice aa f.arrays.length ac, .slice ba n bc] 25) = W := ⟨_, rfl⟩
  have HBW : Hid (Below w.heap.size w W) := by show Below _ _ _; rw [← hW]; exact (Below.refl _ _).alloc (Nat.le_refl _) _
  have HX : Hid (W.heap[w.heap.size]? = some (.cells #[.string f.name, .int .i64 f.regs, .slice aa f.arrays.length ac, .slice ba n bc] 25)) := by
    show _ = _
    rw [← hW]
    exact (MapKept.heap_alloc w _).1
  have x1 : W.cell? ⟨w.heap.size, 1, none⟩ = some (.int .i64 f.regs) := cell_heap HX.out 1
  have x3 : W.cell? ⟨w.heap.size, 3, none⟩ = some (.slice ba n bc) := cell_heap HX.out 3
  rw [hn] at hfits ⊢
  clear hf hn
  by_cases h0 : 10 < n
  · have HNO : Hid (¬ SmallF f) := fun h => by have := h.bl; have := HN.out; omega
    have h0i : (10 : Int) < (n : Int) := by omega
    go_enter Tryd.func11, Tryd.ntmps11
    go_wp2_with fail
    go_ret
    exact ⟨false, rfl, ⟨fun h => by simp at h, fun h => absurd h HNO.out⟩, HBW.out⟩
  have h0d : decide ((10 : Int) < (n : Int)) = false := by simp; omega
  by_cases h1 : 12 < f.regs
  · have HNO : Hid (¬ SmallF f) := fun h => by have := h.rg; omega
    go_enter Tryd.func11, Tryd.ntmps11
    go_wp2_with fail
    go_ret
    exact ⟨false, rfl, ⟨fun h => by simp at h, fun h => absurd h HNO.out⟩, HBW.out⟩
  have h1d : decide (12 < f.regs) = false := by simpa using h1
  have H01 : Hid (n ≤ 10 ∧ f.regs ≤ 12) := by show _ ∧ _; omega
  go_enter Tryd.func11, Tryd.ntmps11
  go_wp2_with fail
  clear hW x1 x3 h0d h1d h1
  go_loopw [17] (fun i wr => ∃ j : Nat, j ≤ n ∧ i = .int .i64 (j : Int) ∧ (∀ b ∈ f.blocks.take j, b.code.length ≤ 20) ∧ Below W.heap.size W wr) (fun i _ => n - (intOf i).toNat)
  case atStart => exact ⟨0, Nat.zero_le _, rfl, by simp, Below.refl _ _⟩
  case round =>
    obtain ⟨j, hj, rfl, hall, hbel⟩ := hrel
    have HALL := Lib.hid hall
    have HB2 : Hid (Below w.heap.size w wr) := HBW.out.trans (hbel.mono HBW.out.size)
    have HBEL := Lib.hid hbel
    have hj0 : (0 : Int) ≤ (j : Int) := by omega
    clear hall hbel
    by_cases hlt : j < n
    · have hlt2 : (j : Int) < (n : Int) := by omega
      obtain ⟨b, hb⟩ : ∃ b, f.blocks[j]? = some b := ⟨_, List.getElem?_eq_getElem (by rw [HN.out]; exact hlt)⟩
      have HB := Lib.hid hb
      rcases HF.out.blocks.at_ with hz | ⟨bb, off, rfl, hk⟩
      · have := HN.out; omega
      obtain ⟨ca, cc, hba, hcode⟩ := hk j b hb
      obtain ⟨c0, c1, c2, c3, c4⟩ := hba.below HB2.out
      obtain ⟨V1, hV1⟩ : ∃ V1 : World, wr.alloc (.cells #[.slice ca b.code.length cc, .int .u8 b.kind, .int .i64 b.x, .int .i64 b.to, .int .i64 b.els] 43) = V1 := ⟨_, rfl⟩
      have HBV1 : Hid (Below wr.heap.size wr V1) := by show Below _ _ _; rw [← hV1]; exact (Below.refl _ _).alloc (Nat.le_refl _) _
      have HZ1 : Hid (V1.heap[wr.heap.size]? = some (.cells #[.slice ca b.code.length cc, .int .u8 b.kind, .int .i64 b.x, .int .i64 b.to, .int .i64 b.els] 43)) := by
        show _ = _
        rw [← hV1]
        exact (MapKept.heap_alloc wr _).1
      have d0 : V1.cell? ⟨wr.heap.size, 0, none⟩ = some (.slice ca b.code.length cc) := cell_heap HZ1.out 0
      have HB3 : Hid (Below w.heap.size w V1) := below_step HB2.out HBV1.out
      have HB4 : Hid (Below W.heap.size W V1) := below_step HBEL.out HBV1.out
      clear hk hba hcode hb
      by_cases hc : 20 < b.code.length
      · have hci : (20 : Int) < (b.code.length : Int) := by omega
        have HNO : Hid (¬ SmallF f) := fun h => by have := h.cd b (List.mem_of_getElem? HB.out); omega
        go_wp2_with fail
        go_ret
        exact ⟨false, rfl, ⟨fun h => by simp at h, fun h => absurd h HNO.out⟩, HB3.out⟩
      · have hci : decide ((20 : Int) < (b.code.length : Int)) = false := by simp; omega
        have HNX : Hid (∀ z ∈ f.blocks.take (j + 1), z.code.length ≤ 20) := fun z hz => by
          rw [take_snoc HB.out] at hz
          rcases List.mem_append.1 hz with hz | hz
          · exact HALL.out z hz
          · rw [List.mem_singleton.1 hz]; omega
        go_wp2_with fail
        clear hV1
        exact ⟨⟨j + 1, by omega, by go_num, HNX.out, HB4.out⟩, by simp [intOf]; omega⟩
    · obtain rfl : n = j := by omega
      go_wp2_with fail
      go_ret
      exact ⟨true, rfl, ⟨fun _ => ⟨by rw [HN.out]; exact H01.out.1, H01.out.2, fun b hb => HALL.out b (by rw [← HN.out, List.take_length]; exact hb)⟩, fun _ => rfl⟩, HB2.out⟩
end Go.Proofs.YteknhnnlhhgppaaDoor
