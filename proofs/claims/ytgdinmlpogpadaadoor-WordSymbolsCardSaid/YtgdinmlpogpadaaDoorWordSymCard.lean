/- This text proves that ontimelaw03.WordSymbols returns true for every kind and leaves its argument as it was. Its condition: package word's table 'operators' holds what the program's own text lays there (the card ties that to the text). -/
import Derived.Test.YtgdinmlpogpadaaDoorCards
import Derived.Test.YtgdinmlpogpadaaDoorTie
import Derived.Test.YtgdinmlpogpadaaDoorWordSymLaw
import Derived.Test.YtgdinmlpogpadaaDoorPost
import Derived.WalkKit
import Derived.ProofKit
import Derived.OpenShut
import Derived.Deep.DeepHandedRow
import Derived.Lib.LaidTab
namespace Go.Proofs.YtgdinmlpogpadaaDoor.wordSymbols
open Go.ChangeShapes Go.WideShapes Go.ChangeAt Go.RowKit

theorem own : ownKnob Tryd.prog.godebug = none := by kernel_rfl
theorem gTab : Tryd.prog.globalNamed "ontime/word.operators" = some 0 := by kernel_rfl
theorem gTabType : (Tryd.prog.globals[0]?).map (·.type) = some 37 := by kernel_rfl
theorem cellsTab : Tryd.prog.cellsOf 37 = 48 := by kernel_rfl
theorem cellsRow : Tryd.prog.cellsOf 36 = 2 := by kernel_rfl
theorem cellsStr : Tryd.prog.cellsOf 9 = 1 := by kernel_rfl
theorem cellsInt : Tryd.prog.cellsOf 3 = 1 := by kernel_rfl

/-- An array of pairs (a string, an integer) that reads as a table holds the table's entries, cell for cell. -/
theorem pairs_of_tab {H : Type} {enc : TypeId × Value → H} {P : Program} {w : World} {base : Nat} {sp : Nat → Bool} {held : Bool} {fuel : Nat} {t e ts ti : TypeId} {n : Nat} {f0 f1 : Field} {cs : List Value} {zs : List (List UInt8 × Int)} {p : List MemPlace}
    (ht : P.underlying t = some (.array n e)) (he : P.underlying e = some (.struct #[f0, f1])) (h0 : f0.type = ts ∧ f0.offset = 0) (h1 : f1.type = ti ∧ f1.offset = 1) (hts : P.underlying ts = some .string) (hti : P.underlying ti = some (.int .i64))
    (hce : P.cellsOf e = 2) (hct : P.cellsOf t = n * 2) (hcs : P.cellsOf ts = 1) (hci : P.cellsOf ti = 1)
    (h : DataW.trod enc P w base sp held fuel t cs = some (.agg (zs.map fun z => .agg [.lit (.string z.1), .lit (.int .i64 z.2)]), p)) (i : Nat) (z : List UInt8 × Int) (hz : zs[i]? = some z) :
    (∃ s : ByteArray, s.data.toList = z.1 ∧ cs[2 * i]? = some (.string s)) ∧ cs[2 * i + 1]? = some (.int .i64 z.2) := by
  cases fuel with
  | zero => simp [DataW.trod] at h
  | succ fuel =>
    simp only [DataW.trod, ht, hce, hct] at h
    split at h
    · rename_i hl
      obtain ⟨xs, hm, hx⟩ := Option.map_eq_some_iff.1 h
      have hxs : xs.map (·.1) = zs.map fun z => (DataW.agg [.lit (.string z.1), .lit (.int .i64 z.2)] : DataW H) := by
        have := congrArg Prod.fst hx
        simpa using this
      have hxl : xs.length = n := by simpa using Lib.mapM_length hm
      have hzl : zs.length = n := by
        have := congrArg List.length hxs
        simp at this
        omega
      have hi : i < n := by rw [← hzl]; exact (List.getElem?_eq_some_iff.1 hz).1
      obtain ⟨b, hb, hf⟩ := Lib.mapM_at hm i i (by simp [hi])
      obtain ⟨y0, y1, m, rfl, _, ha, hb'⟩ := trod_struct2 he hf
      rw [h0.1, h0.2, hcs] at ha
      rw [h1.1, h1.2, hci] at hb'
      obtain ⟨s, hs, rfl, _⟩ := DataW.trod_string hts ha
      obtain ⟨v, hv, rfl, _⟩ := DataW.trod_int hti hb'
      have h2 : (xs.map (·.1))[i]? = some (DataW.agg [.lit (.string s.data.toList), .lit (.int .i64 v)] : DataW H) := by simp [hb]
      rw [hxs] at h2
      simp [hz] at h2
      obtain ⟨e1, e2⟩ := h2
      refine ⟨⟨s, e1.symm, ?_⟩, ?_⟩
      · have := congrArg (·[0]?) hs
        simp [List.getElem?_take, List.getElem?_drop] at this
        rw [Nat.mul_comm]; simpa using this
      · have := congrArg (·[0]?) hv
        simp [List.getElem?_take, List.getElem?_drop] at this
        rw [e2, Nat.mul_comm]; simpa using this
    · cases h

def zs : List (List UInt8 × Int) := (symTab.zip lvlTab).map fun z => (z.1.data.toList, z.2)
theorem zs_at : ∀ k, k < 24 → zs[k]? = some ((symOf k).data.toList, lvlOf k) := by decide

/-- What the row's list gives: the table's cells. -/
theorem table {W : World} (h : laidMetH Tryd.prog Rows.wordSymbolsRow.laid W) : TabIn W := by
  obtain ⟨ps, ⟨g', t', cs, fuel, p, q, hg', ht', hvar, hd, _, _⟩, _⟩ := (show laidMet Tryd.prog [("ontime/word.operators", Rows.laid_ontime_word_operators)] W from h)
  obtain rfl := Option.some.inj (gTab.symm.trans hg')
  obtain rfl := Option.some.inj (gTabType.symm.trans ht')
  have hd' : DataW.trod _ Tryd.prog W _ _ _ fuel 37 cs.toList = some (.agg (zs.map fun z => .agg [.lit (.string z.1), .lit (.int .i64 z.2)]), p) := hd
  intro k hk
  obtain ⟨⟨s, hs, h0⟩, h1⟩ := pairs_of_tab Tryd.underlying37 Tryd.underlying36 ⟨rfl, rfl⟩ ⟨rfl, rfl⟩ Tryd.underlying9 Tryd.underlying3 cellsRow cellsTab cellsStr cellsInt hd' k _ (zs_at k hk)
  have hss : s = symOf k := by
    cases s; cases hq : symOf k; rw [hq] at hs; congr 1; exact Array.toList_inj.1 hs
  subst hss
  have c0 := World.var?_cell gTab hvar (2 * k)
  have c1 := World.var?_cell gTab hvar (2 * k + 1)
  rw [c0, c1]
  exact ⟨by simpa using h0, by simpa using h1⟩

/-- What the walk gives, for every argument and every world that holds the table. -/
theorem contract (H : Type) (enc : TypeId × Value → H) (W : World) (base : Nat) (args : Array Value) (ds gs : List (DataW H)) (before : List MemPlace)
    (hval : ∀ (j : Nat) t v, Tryd.f3.params[j]? = some t → args[j]? = some v → Value.okWide Tryd.prog W .any base t v)
    (hW : DataW.Whole enc Tryd.prog Tryd.f3.params.toList Rows.wordSymbolsSpec.vars false W args.toList ds gs before) (hL : laidMetH Tryd.prog Rows.wordSymbolsRow.laid W) :
    Calls Tryd.prog 3 args W fun e W' => ∃ v, e = .returned v ∧ Rows.wordSymbolsSpec.post enc Tryd.prog Tryd.f3 false true false false W args v W' := by
  have hW' := hW
  obtain ⟨p, q, hA0, hV, rfl, hfz, hnd⟩ := hW
  have hA : DataW.TrodAll enc Tryd.prog W 0 (fun _ => true) true Tryd.f3.params.toList args.toList ds p := hA0
  rw [Tryd.params3] at hA hval
  obtain ⟨v0, vs0, d0, ds0, p0, q0, hargs, rfl, rfl, h0, r0⟩ := trodAll_cons hA
  obtain ⟨rfl, rfl, rfl⟩ := trodAll_nil r0
  obtain rfl : args = #[v0] := by cases args; simp_all
  obtain ⟨rfl, rfl⟩ := trodVars_none hV
  obtain ⟨a0, rfl, rfl, rfl, w0⟩ := open_int Tryd.underlying5 (hval 0 5 v0 rfl rfl) h0
  clear hA0
  simp only [List.append_nil] at hW'
  have hb : 0 ≤ a0 ∧ a0 ≤ 255 := by simpa [Lit.wf, IntKind.min, IntKind.max, IntKind.signed, IntKind.bits] using w0
  obtain ⟨k, rfl⟩ := Int.eq_ofNat_of_zero_le hb.1
  refine (symbolsLaw_any k (by omega) W (table hL)).mono fun e W' ⟨he, hB⟩ => ?_
  subst he
  exact ⟨_, rfl, post_of_below (pa := []) (pv := []) hW' (fun _ _ _ => trodAll_cons_mk (shut_bool Tryd.underlying4 _) trodAll_mk0) (fun _ _ => trodAll_cons_mk (shut_int Tryd.underlying5 w0) trodAll_mk0) (fun _ _ => rfl) rfl
    hB (ok_one (by kernel_rfl) rfl (okWide_bool_mk Tryd.underlying4 _))⟩

/-- A world for the witness: the settled one, the table holding what its initialiser lays. -/
noncomputable def laidWorld (os : Os) : World :=
  { World.holding Tryd.prog os ⟨#[], #[], []⟩ with heap := (World.holding Tryd.prog os ⟨#[], #[], []⟩).heap.modify 0 fun
      | .cells _ t frozen => .cells ((symTab.zip lvlTab).flatMap fun z => [.string z.1, .int .i64 z.2]).toArray t frozen
      | o => o }
theorem laid_met (os : Os) : laidMet Tryd.prog Rows.wordSymbolsRow.laid ((laidWorld os).forCall (fun _ _ => 0) ⟨#[], #[.int .u8 0], []⟩).memory :=
  laidMet_of_run' 8 (by kernel_rfl) (by kernel_rfl)
theorem reads (os : Os) {H : Type} (enc : TypeId × Value → H) : ∃ places, DataW.whole enc Tryd.prog ((laidWorld os).forCall (fun _ _ => 0) ⟨#[], #[.int .u8 0], []⟩).memory Tryd.f3.params.toList Rows.wordSymbolsSpec.vars false #[Value.int .u8 0].toList 8 = some ([.lit (.int .u8 0)], [], places) :=
  ⟨[], by kernel_rfl⟩

set_option maxRecDepth 100000 in
theorem lifted (os : Os) (started : os.Started) (H : Type) (enc : TypeId × Value → H) (F : Stop.Interp) :
    ReturnsInHanded {} Tryd.checked os 3 .any ((OpenSpec.ofChange Rows.wordSymbolsSpec).preRow enc Tryd.prog Tryd.f3 Rows.wordSymbolsRow.domain false Rows.wordSymbolsRow.laid) (((OpenSpec.ofChange Rows.wordSymbolsSpec).at F).post enc Tryd.prog Tryd.f3 false true false false) := by
  obtain ⟨places, hx⟩ := reads os enc
  refine returnsInHanded_of_row (C := Tryd.checked) (s := OpenSpec.ofChange Rows.wordSymbolsSpec) own started (by kernel_rfl) Tryd.func3
    (witness_row_at (enc := enc) (C := Tryd.checked) false (laidWorld os) #[.int .u8 0] rfl (by kernel_rfl) (by kernel_rfl) (by kernel_rfl)
      (OpenSpec.preRow_of_cond 8 hx (by kernel_rfl) (fun k hk => by cases hk) (by kernel_rfl) (laid_met os))) ?_
  intro W base args ds gs before hval hW _ _ _ hL _ _
  exact contract H enc W base args ds gs before hval hW hL

theorem said : Rows.WordSymbolsSaid :=
  OpenClaim.holds_of_cond 3 Tryd.f3 rfl rfl rfl rfl rfl rfl rfl ⟨rfl, rfl, rfl, rfl, rfl⟩ rfl rfl rfl rfl rfl (by kernel_rfl) Tryd.func3 (by kernel_rfl)
    (of_decide_eq_true (by kernel_rfl)) (by unfold Func.isWrapper; first | (rw [if_pos (by decide +kernel)]; kernel_rfl) | (rw [if_neg (by decide +kernel)]; exact ⟨rfl, rfl⟩))
    (fun os started H enc _ F => by rw [OpenClaim.pre_eq_preRow]; exact lifted os started H enc F)

/-- No parameter wants a stand-in; the program's own looks are off. -/
theorem plain (f : FuncId) (fn : Func) (hf : Tryd.pinned.checked.prog.funcNamed "ontime/ontimelaw03.WordSymbols" = some f) (hfn : Tryd.pinned.checked.prog.funcs[f]? = some fn) :
    false = Tryd.pinned.checked.prog.looks [] ∧ ∀ (j : Nat) t, fn.params[j]? = some t → Tryd.pinned.checked.prog.wantsStandIn t = false := by
  obtain rfl : f = 3 := Option.some.inj ((show Tryd.prog.funcNamed "ontime/ontimelaw03.WordSymbols" = some 3 by kernel_rfl).symm.trans hf) |>.symm
  obtain rfl : fn = Tryd.f3 := (Option.some.inj (Tryd.func3.symm.trans hfn)).symm
  refine ⟨by kernel_rfl, fun j t ht => ?_⟩
  rw [Tryd.params3] at ht
  obtain rfl : t = 5 := by simpa using Array.mem_of_getElem? ht
  exact (show Tryd.prog.wantsStandIn 5 = false by kernel_rfl)

theorem card : Rows.WordSymbolsCardSaid :=
  Claim7.holds_tied_plain_at .later [] _ _ _ _ said (fun _ h => by cases h) (by kernel_rfl) (fun _ h => by cases h) wordSymbols_row_tie rfl ⟨rfl, rfl⟩ (by kernel_rfl) rfl plain (by kernel_rfl)
#print axioms card
end Go.Proofs.YtgdinmlpogpadaaDoor.wordSymbols
