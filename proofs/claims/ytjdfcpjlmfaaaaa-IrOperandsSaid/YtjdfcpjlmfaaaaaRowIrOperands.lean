/- This text proves that ontimelaw17.IrOperands returns true for every input and leaves its arguments as they were: Uses, Defines, and Succ answer as the reference does. No condition. -/
import Derived.Test.YtjdfcpjlmfaaaaaRows
import Derived.Test.YtjdfcpjlmfaaaaaLawOperands
import Derived.Test.YtjdfcpjlmfaaaaaIrOpen
import Derived.Test.YtjdfcpjlmfaaaaaLawPost
import Derived.WalkKit
import Derived.ProofKit
import Derived.OpenShut
namespace Go.Proofs.Ytjdfcpjlmfaaaaa.irOperands
set_option linter.unusedVariables false
set_option linter.unusedSimpArgs false
open Go.ChangeShapes Go.WideShapes Go.ChangeAt Go.RowKit

theorem own : ownKnob Try.prog.godebug = none := by kernel_rfl
theorem laidOut : laidOutB Try.prog = true := by kernel_rfl
theorem reads_F : Try.prog.readableRec 25 = true ∧ 25 < Try.prog.types.size := ⟨by kernel_rfl, by decide +kernel⟩
theorem reads_S : Try.prog.readableRec 22 = true ∧ 22 < Try.prog.types.size := ⟨by kernel_rfl, by decide +kernel⟩
theorem readable : ∀ t ∈ Try.f9.params.toList, Try.prog.readableRec t = true ∧ t < Try.prog.types.size := by
  rw [Try.params9]
  intro t ht
  simp only [List.mem_cons, List.not_mem_nil, or_false] at ht
  rcases ht with rfl | rfl
  · exact reads_F
  · exact reads_S

set_option maxRecDepth 100000 in
theorem contract (H : Type) (enc : TypeId × Value → H) (W : World) (base : Nat) (args : Array Value) (ds gs : List (DataW H)) (before : List MemPlace)
    (hval : ∀ (j : Nat) t v, Try.f9.params[j]? = some t → args[j]? = some v → Value.okWide Try.prog W .any base t v)
    (hW : DataW.Whole enc Try.prog Try.f9.params.toList Rows.irOperandsSpec.vars false W args.toList ds gs before) :
    Calls Try.prog 9 args W fun e W' => ∃ v, e = .returned v ∧ Rows.irOperandsSpec.post enc Try.prog Try.f9 false true false false W args v W' := by
  have hW' := hW
  obtain ⟨p, q, hA0, hV, rfl, hfz, hnd⟩ := hW
  have hA : DataW.TrodAll enc Try.prog W 0 (fun _ => true) true Try.f9.params.toList args.toList ds p := hA0
  rw [Try.params9] at hA hval
  obtain ⟨v1, vs1, e1, ds1, p1, q1, hargs1, hds1, hp1, h1, r1⟩ := trodAll_cons hA
  obtain ⟨v2, vs2, e2, ds2, p2, q2, hargs2, hds2, hp2, h2, r2⟩ := trodAll_cons r1
  obtain ⟨hv, hd, hq⟩ := trodAll_nil r2
  subst hv hd hq
  subst hds2
  subst hds1
  obtain rfl : args = #[v1, v2] := by
    apply Array.toList_inj.1; simp only [hargs1, hargs2]
  clear hA hA0
  obtain ⟨f1, a1, b1, c1, d1, rfl, hr1⟩ := open_fn (hval 0 25 v1 rfl rfl) h1
  obtain ⟨s2, l2, c2, rfl, hr2⟩ := open_arrs (hval 1 22 v2 rfl rfl) h2
  refine (irOperands_any f1 l2 a1 b1 s2 c1 d1 c2 W hr1 hr2).mono fun e W' ⟨he, hB⟩ => ?_
  subst he
  exact ⟨_, rfl, law_post laidOut readable rfl rfl Try.underlying4 rfl hW' hB⟩

set_option maxRecDepth 100000 in
theorem lifted (os : Os) (started : os.Started) (H : Type) (enc : TypeId × Value → H) :
    ReturnsInHanded {} Try.checked os 9 .any (Rows.irOperandsSpec.pre6 enc Try.prog Try.f9 Rows.irOperandsRow.domain false) (Rows.irOperandsSpec.post enc Try.prog Try.f9 false true false false) := by
  refine returnsInHanded_of_change (C := Try.checked) own started (by kernel_rfl) Try.func9
    (ChangeSpec.witness6 (enc := enc) (C := Try.checked) false ⟨#[], #[.agg #[.string ⟨#[]⟩, .int .i64 0, .slice none 0 0, .slice none 0 0], .slice none 0 0], []⟩ 8 (by kernel_rfl) (by kernel_rfl) (by kernel_rfl) (by kernel_rfl)) ?_
  intro W base args ds gs before hval0 hW hcnd _
  exact contract H enc W base args ds gs before hval0 hW

theorem over : Rows.irOperandsRow.holds Try.pinned (OpenSpec.ofChange Rows.irOperandsSpec) :=
  OpenClaim.holds_of_wide 9 Try.f9 rfl rfl rfl rfl rfl rfl rfl ⟨rfl, rfl, rfl, rfl, rfl⟩ rfl rfl rfl rfl rfl (by kernel_rfl) Try.func9 (by kernel_rfl)
    (of_decide_eq_true (by kernel_rfl)) (by unfold Func.isWrapper; first | (rw [if_pos (by decide +kernel)]; kernel_rfl) | (rw [if_neg (by decide +kernel)]; exact ⟨rfl, rfl⟩))
    (fun os started H enc _ => lifted os started H enc)

theorem proved : Rows.IrOperandsSaid :=
  over
#print axioms proved
end Go.Proofs.Ytjdfcpjlmfaaaaa.irOperands
