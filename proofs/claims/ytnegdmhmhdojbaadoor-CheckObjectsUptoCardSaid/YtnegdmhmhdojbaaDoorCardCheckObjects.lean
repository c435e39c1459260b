/- This text proves that ontimelaw15.CheckObjects returns true for every input of bulk at most 1048576 and leaves its arguments as they were: the objects of any tree are those of the reference. Its condition: package lexer's table 'signs' holds what the program's own text lays there (the card ties that to the text). -/
import Derived.Test.YtnegdmhmhdojbaaDoorCards
import Derived.Test.YtnegdmhmhdojbaaDoorTie
import Derived.Test.YtnegdmhmhdojbaaDoorLawObjects
import Derived.Test.YtnegdmhmhdojbaaDoorTreeBulk
import Derived.Test.YtnegdmhmhdojbaaDoorOpens
import Derived.Test.YtnegdmhmhdojbaaDoorPosts
import Derived.WalkKit
import Derived.ProofKit
import Derived.OpenShut
import Derived.Deep.DeepHandedRow
import Derived.Lib.LaidTab
namespace Go.Proofs.YtnegdmhmhdojbaaDoor.checkObjects
set_option linter.unusedVariables false
set_option linter.unusedSimpArgs false
open Go.ChangeShapes Go.WideShapes Go.ChangeAt Go.RowKit

theorem own : ownKnob Tryd.prog.godebug = none := by kernel_rfl
theorem laidOut : laidOutB Tryd.prog = true := by kernel_rfl
theorem reads_nodeb : Tryd.prog.readableRec 43 = true ∧ 43 < Tryd.prog.types.size := ⟨by kernel_rfl, by decide +kernel⟩
theorem reads_prog : Tryd.prog.readableRec 25 = true ∧ 25 < Tryd.prog.types.size := ⟨by kernel_rfl, by decide +kernel⟩
theorem readable : ∀ t ∈ Tryd.f6.params.toList, Tryd.prog.readableRec t = true ∧ t < Tryd.prog.types.size := by
  rw [Tryd.params6]
  intro t ht
  simp only [List.mem_cons, List.not_mem_nil, or_false] at ht
  rcases ht with rfl | rfl
  · exact reads_nodeb
  · exact reads_prog

set_option maxRecDepth 100000 in
theorem contract (H : Type) (enc : TypeId × Value → H) (W : World) (base : Nat) (args : Array Value) (ds gs : List (DataW H)) (before : List MemPlace)
    (hval : ∀ (j : Nat) t v, Tryd.f6.params[j]? = some t → args[j]? = some v → Value.okWide Tryd.prog W .any base t v)
    (hW : DataW.Whole enc Tryd.prog Tryd.f6.params.toList Rows.checkObjectsSpec.vars false W args.toList ds gs before) (hL : laidMetH Tryd.prog Rows.checkObjectsUptoRow.laid W)
    (hK : Rows.uptoSmall H (ds ++ gs) = true) :
    Calls Tryd.prog 6 args W fun e W' => ∃ v, e = .returned v ∧ Rows.checkObjectsSpec.post enc Tryd.prog Tryd.f6 false true false false W args v W' := by
  have hW' := hW
  obtain ⟨p, q, hA0, hV, rfl, hfz, hnd⟩ := hW
  have hA : DataW.TrodAll enc Tryd.prog W 0 (fun _ => true) true Tryd.f6.params.toList args.toList ds p := hA0
  rw [Tryd.params6] at hA hval
  obtain ⟨v0, vs0, d0, ds0, p0, q0, hargs0, hds0, hp0, h0, r0⟩ := trodAll_cons hA
  obtain ⟨v1, vs1, d1, ds1, p1, q1, hargs1, hds1, hp1, h1, r1⟩ := trodAll_cons r0
  obtain ⟨hv, hd, hq⟩ := trodAll_nil r1
  subst hv hd hq
  subst hds1
  subst hds0
  obtain rfl : args = #[v0, v1] := by
    apply Array.toList_inj.1; simp only [hargs0, hargs1]
  clear hA hA0
  obtain ⟨t0, a0, c0, rfl, hr0, hbk0⟩ := open_node_bulk (hval 0 43 v0 rfl rfl) h0
  have hsz0 : t0.size ≤ 1048576 := Nat.le_trans hbk0 (Nat.le_trans (bulk_part (List.mem_append_left _ (List.mem_of_getElem? (i := 0) rfl))) (of_decide_eq_true hK))
  obtain ⟨pr1, sa1, sc1, ta1, tc1, rfl, hr1⟩ := open_prog (hval 1 25 v1 rfl rfl) h1
  refine (checkObjects_any t0 pr1 W a0 sa1 ta1 c0 sc1 tc1 hr0 hr1 (signs_of_laid hL) (by omega)).mono fun e W' ⟨he, hB⟩ => ?_
  subst he
  exact ⟨_, rfl, law_post laidOut readable rfl rfl Tryd.underlying4 rfl hW' hB⟩

/-- A world for the witness: the settled one, the table holding what its initialiser lays. -/
noncomputable def laidWorld (os : Os) : World :=
  { World.holding Tryd.prog os ⟨#[], #[], []⟩ with heap := (World.holding Tryd.prog os ⟨#[], #[], []⟩).heap.modify 0 fun
      | .cells _ t frozen => .cells SG t frozen
      | o => o }
theorem laid_met (os : Os) : laidMet Tryd.prog Rows.checkObjectsUptoRow.laid ((laidWorld os).forCall (fun _ _ => 0) ⟨#[], #[.agg #[.int .u8 0, .int .i64 0, .string ⟨#[]⟩, .slice none 0 0], .agg #[.slice none 0 0, .slice none 0 0]], []⟩).memory :=
  laidMet_of_run' 8 (by kernel_rfl) (by kernel_rfl)
theorem reads (os : Os) {H : Type} (enc : TypeId × Value → H) : ∃ places, DataW.whole enc Tryd.prog ((laidWorld os).forCall (fun _ _ => 0) ⟨#[], #[.agg #[.int .u8 0, .int .i64 0, .string ⟨#[]⟩, .slice none 0 0], .agg #[.slice none 0 0, .slice none 0 0]], []⟩).memory Tryd.f6.params.toList Rows.checkObjectsSpec.vars false (#[.agg #[.int .u8 0, .int .i64 0, .string ⟨#[]⟩, .slice none 0 0], .agg #[.slice none 0 0, .slice none 0 0]] : Array Value).toList 8 = some ([.agg [.lit (.int .u8 0), .lit (.int .i64 0), .lit (.string []), .nil], .agg [.nil, .nil]], [], places) :=
  ⟨[], by kernel_rfl⟩

set_option maxRecDepth 100000 in
theorem lifted (os : Os) (started : os.Started) (H : Type) (enc : TypeId × Value → H) (F : Stop.Interp) :
    ReturnsInHanded {} Tryd.checked os 6 .any ((Rows.OpenSpec.upto Rows.checkObjectsSpec).preRow enc Tryd.prog Tryd.f6 Rows.checkObjectsUptoRow.domain false Rows.checkObjectsUptoRow.laid) (((Rows.OpenSpec.upto Rows.checkObjectsSpec).at F).post enc Tryd.prog Tryd.f6 false true false false) := by
  obtain ⟨places, hx⟩ := reads os enc
  refine returnsInHanded_of_row (C := Tryd.checked) (s := Rows.OpenSpec.upto Rows.checkObjectsSpec) own started (by kernel_rfl) Tryd.func6
    (witness_row_at (enc := enc) (C := Tryd.checked) false (laidWorld os) #[.agg #[.int .u8 0, .int .i64 0, .string ⟨#[]⟩, .slice none 0 0], .agg #[.slice none 0 0, .slice none 0 0]] rfl (by kernel_rfl) (by kernel_rfl) (by kernel_rfl)
      (OpenSpec.preRow_of_cond 8 hx (by kernel_rfl) (fun k hk => by cases hk; kernel_rfl) (by kernel_rfl) (laid_met os))) ?_
  intro W base args ds gs before hval hW _ hK _ hL _ _
  exact contract H enc W base args ds gs before hval hW hL (hK _ rfl)

theorem said : Rows.CheckObjectsUptoSaid :=
  OpenClaim.holds_of_cond 6 Tryd.f6 rfl rfl rfl rfl rfl rfl rfl ⟨rfl, rfl, rfl, rfl, rfl⟩ rfl rfl rfl rfl rfl (by kernel_rfl) Tryd.func6 (by kernel_rfl)
    (of_decide_eq_true (by kernel_rfl)) (by unfold Func.isWrapper; first | (rw [if_pos (by decide +kernel)]; kernel_rfl) | (rw [if_neg (by decide +kernel)]; exact ⟨rfl, rfl⟩))
    (fun os started H enc _ F => by rw [OpenClaim.pre_eq_preRow]; exact lifted os started H enc F)

/-- No parameter wants a stand-in; the program's own looks are off. -/
theorem plain (f : FuncId) (fn : Func) (hf : Tryd.pinned.checked.prog.funcNamed "ontime/ontimelaw15.CheckObjects" = some f) (hfn : Tryd.pinned.checked.prog.funcs[f]? = some fn) :
    true = Tryd.pinned.checked.prog.looks [] ∧ ∀ (j : Nat) t, fn.params[j]? = some t → Tryd.pinned.checked.prog.wantsStandIn t = false := by
  obtain rfl : f = 6 := Option.some.inj ((show Tryd.prog.funcNamed "ontime/ontimelaw15.CheckObjects" = some 6 by kernel_rfl).symm.trans hf) |>.symm
  obtain rfl : fn = Tryd.f6 := (Option.some.inj (Tryd.func6.symm.trans hfn)).symm
  refine ⟨by kernel_rfl, fun j t ht => ?_⟩
  rw [Tryd.params6] at ht
  have hm := Array.mem_of_getElem? ht
  simp only [List.mem_toArray, List.mem_cons, List.not_mem_nil, or_false] at hm
  rcases hm with rfl | rfl
  · exact (show Tryd.prog.wantsStandIn 43 = false by kernel_rfl)
  · exact (show Tryd.prog.wantsStandIn 25 = false by kernel_rfl)

theorem card : Rows.CheckObjectsUptoCardSaid :=
  Claim7.holds_tied_plain_at .later [] _ _ _ _ said (fun _ h => by cases h) (by kernel_rfl) (fun _ h => by cases h) checkObjectsUpto_row_tie rfl ⟨rfl, rfl⟩ (by kernel_rfl) rfl plain (by kernel_rfl)
#print axioms card
end Go.Proofs.YtnegdmhmhdojbaaDoor.checkObjects
