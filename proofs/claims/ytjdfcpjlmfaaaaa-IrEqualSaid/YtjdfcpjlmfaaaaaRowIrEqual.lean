/- This text proves that ontimelaw17.IrEqual returns true for every input and leaves its arguments as they were: Equal is reflexive, and detects a change of any field of a function. No condition. -/
import Derived.Test.YtjdfcpjlmfaaaaaRows
import Derived.Test.YtjdfcpjlmfaaaaaLawEqual17
import Derived.Test.YtjdfcpjlmfaaaaaIrOpenS
import Derived.Test.YtjdfcpjlmfaaaaaLawPost
import Derived.WalkKit
import Derived.ProofKit
import Derived.OpenShut
namespace Go.Proofs.Ytjdfcpjlmfaaaaa.irEqual
set_option linter.unusedVariables false
set_option linter.unusedSimpArgs false
open Go.ChangeShapes Go.WideShapes Go.ChangeAt Go.RowKit

theorem own : ownKnob Try.prog.godebug = none := by kernel_rfl
theorem laidOut : laidOutB Try.prog = true := by kernel_rfl
theorem reads_F : Try.prog.readableRec 25 = true ∧ 25 < Try.prog.types.size := ⟨by kernel_rfl, by decide +kernel⟩
theorem reads_i8 : Try.prog.readableRec 65 = true ∧ 65 < Try.prog.types.size := ⟨by kernel_rfl, by decide +kernel⟩
theorem reads_u8 : Try.prog.readableRec 5 = true ∧ 5 < Try.prog.types.size := ⟨by kernel_rfl, by decide +kernel⟩
theorem readable : ∀ t ∈ Try.f8.params.toList, Try.prog.readableRec t = true ∧ t < Try.prog.types.size := by
  rw [Try.params8]
  intro t ht
  simp only [List.mem_cons, List.not_mem_nil, or_false] at ht
  rcases ht with rfl | rfl | rfl | rfl
  · exact reads_F
  · exact reads_u8
  · exact reads_u8
  · exact reads_i8

set_option maxRecDepth 100000 in
theorem contract (H : Type) (enc : TypeId × Value → H) (W : World) (base : Nat) (args : Array Value) (ds gs : List (DataW H)) (before : List MemPlace)
    (hval : ∀ (j : Nat) t v, Try.f8.params[j]? = some t → args[j]? = some v → Value.okWide Try.prog W .any base t v)
    (hW : DataW.Whole enc Try.prog Try.f8.params.toList Rows.irEqualSpec.vars false W args.toList ds gs before) (hsz : (DataW.weightsEach Try.prog (Try.f8.params.toList ++ Rows.irEqualSpec.plain.varTypes Try.prog) (ds ++ gs)).all (· ≤ reachBytes) = true) :
    Calls Try.prog 8 args W fun e W' => ∃ v, e = .returned v ∧ Rows.irEqualSpec.post enc Try.prog Try.f8 false true false false W args v W' := by
  have hW' := hW
  obtain ⟨p, q, hA0, hV, rfl, hfz, hnd⟩ := hW
  have hA : DataW.TrodAll enc Try.prog W 0 (fun _ => true) true Try.f8.params.toList args.toList ds p := hA0
  rw [Try.params8] at hA hval
  obtain ⟨v1, vs1, e1, ds1, p1, q1, hargs1, hds1, hp1, h1, r1⟩ := trodAll_cons hA
  obtain ⟨v2, vs2, e2, ds2, p2, q2, hargs2, hds2, hp2, h2, r2⟩ := trodAll_cons r1
  obtain ⟨v3, vs3, e3, ds3, p3, q3, hargs3, hds3, hp3, h3, r3⟩ := trodAll_cons r2
  obtain ⟨v4, vs4, e4, ds4, p4, q4, hargs4, hds4, hp4, h4, r4⟩ := trodAll_cons r3
  obtain ⟨hv, hd, hq⟩ := trodAll_nil r4
  subst hv hd hq
  subst hds4
  subst hds3
  subst hds2
  subst hds1
  obtain rfl : args = #[v1, v2, v3, v4] := by
    apply Array.toList_inj.1; simp only [hargs1, hargs2, hargs3, hargs4]
  clear hA hA0
  obtain ⟨f1, a1, b1, c1, d1, rfl, hr1⟩ := open_fn (hval 0 25 v1 rfl rfl) h1
  obtain ⟨a2, rfl, _, _, w2⟩ := open_int Try.underlying5 (hval 1 5 v2 rfl rfl) h2
  obtain ⟨a3, rfl, _, _, w3⟩ := open_int Try.underlying5 (hval 2 5 v3 rfl rfl) h3
  obtain ⟨a4, rfl, _, _, w4⟩ := open_int Try.underlying65 (hval 3 65 v4 rfl rfl) h4
  have hwt : ∀ m ∈ e1.weights Try.prog 25, m ≤ reachBytes := fun m hm => by
    have := List.all_eq_true.1 hsz m (DataW.weights_mem_each (j := 0) (t := 25) (d := e1) (by rw [Try.params8]; rfl) rfl m hm)
    simpa using this
  have hs1 := fn_sized h1 hr1 hwt
  refine (irEqual_any f1 a2 a3 a4 (wf8 w2).1 (wf8 w2).2 (wf8 w3).1 (wf8 w3).2 (wfi8 w4).1 (wfi8 w4).2 a1 b1 c1 d1 W hr1 hs1.1 hs1.2).mono fun e W' ⟨he, hB⟩ => ?_
  subst he
  exact ⟨_, rfl, law_post laidOut readable rfl rfl Try.underlying4 rfl hW' hB⟩

set_option maxRecDepth 100000 in
theorem lifted (os : Os) (started : os.Started) (H : Type) (enc : TypeId × Value → H) :
    ReturnsInHanded {} Try.checked os 8 .any (Rows.irEqualSpec.pre6 enc Try.prog Try.f8 Rows.irEqualRow.domain false) (Rows.irEqualSpec.post enc Try.prog Try.f8 false true false false) := by
  refine returnsInHanded_of_change_sized (C := Try.checked) own started (by kernel_rfl) Try.func8
    (ChangeSpec.witness6 (enc := enc) (C := Try.checked) false ⟨#[], #[.agg #[.string ⟨#[]⟩, .int .i64 0, .slice none 0 0, .slice none 0 0], .int .u8 0, .int .u8 0, .int .i8 0], []⟩ 8 (by kernel_rfl) (by kernel_rfl) (by kernel_rfl) (by kernel_rfl)) ?_
  intro W base args ds gs before hval0 hW hcnd hsz _
  exact contract H enc W base args ds gs before hval0 hW hsz

theorem over : Rows.irEqualRow.holds Try.pinned (OpenSpec.ofChange Rows.irEqualSpec) :=
  OpenClaim.holds_of_wide 8 Try.f8 rfl rfl rfl rfl rfl rfl rfl ⟨rfl, rfl, rfl, rfl, rfl⟩ rfl rfl rfl rfl rfl (by kernel_rfl) Try.func8 (by kernel_rfl)
    (of_decide_eq_true (by kernel_rfl)) (by unfold Func.isWrapper; first | (rw [if_pos (by decide +kernel)]; kernel_rfl) | (rw [if_neg (by decide +kernel)]; exact ⟨rfl, rfl⟩))
    (fun os started H enc _ => lifted os started H enc)

theorem proved : Rows.IrEqualSaid :=
  over
#print axioms proved
end Go.Proofs.Ytjdfcpjlmfaaaaa.irEqual
