/- This text proves that ontimelaw17.IrRuns returns true for every input and leaves its arguments as they were: Run returns the specified outcome, and does not modify its arguments. No condition. -/
import Derived.Test.YtjdfcpjlmfaaaaaRows
import Derived.Test.YtjdfcpjlmfaaaaaLawRuns
import Derived.Test.YtjdfcpjlmfaaaaaIrOpen
import Derived.Test.YtjdfcpjlmfaaaaaLawPost
import Derived.WalkKit
import Derived.ProofKit
import Derived.OpenShut
namespace Go.Proofs.Ytjdfcpjlmfaaaaa.irRuns
set_option linter.unusedVariables false
set_option linter.unusedSimpArgs false
open Go.ChangeShapes Go.WideShapes Go.ChangeAt Go.RowKit

theorem own : ownKnob Try.prog.godebug = none := by kernel_rfl
theorem laidOut : laidOutB Try.prog = true := by kernel_rfl
theorem reads_C : Try.prog.readableRec 34 = true ∧ 34 < Try.prog.types.size := ⟨by kernel_rfl, by decide +kernel⟩
theorem reads_F : Try.prog.readableRec 25 = true ∧ 25 < Try.prog.types.size := ⟨by kernel_rfl, by decide +kernel⟩
theorem reads_S : Try.prog.readableRec 22 = true ∧ 22 < Try.prog.types.size := ⟨by kernel_rfl, by decide +kernel⟩
theorem reads_W : Try.prog.readableRec 35 = true ∧ 35 < Try.prog.types.size := ⟨by kernel_rfl, by decide +kernel⟩
theorem reads_int : Try.prog.readableRec 3 = true ∧ 3 < Try.prog.types.size := ⟨by kernel_rfl, by decide +kernel⟩
theorem readable : ∀ t ∈ Try.f4.params.toList, Try.prog.readableRec t = true ∧ t < Try.prog.types.size := by
  rw [Try.params4]
  intro t ht
  simp only [List.mem_cons, List.not_mem_nil, or_false] at ht
  rcases ht with rfl | rfl | rfl | rfl | rfl | rfl
  · exact reads_F
  · exact reads_S
  · exact reads_C
  · exact reads_C
  · exact reads_W
  · exact reads_int

set_option maxRecDepth 100000 in
theorem contract (H : Type) (enc : TypeId × Value → H) (W : World) (base : Nat) (args : Array Value) (ds gs : List (DataW H)) (before : List MemPlace)
    (hval : ∀ (j : Nat) t v, Try.f4.params[j]? = some t → args[j]? = some v → Value.okWide Try.prog W .any base t v)
    (hW : DataW.Whole enc Try.prog Try.f4.params.toList Rows.irRunsSpec.vars false W args.toList ds gs before) :
    Calls Try.prog 4 args W fun e W' => ∃ v, e = .returned v ∧ Rows.irRunsSpec.post enc Try.prog Try.f4 false true false false W args v W' := by
  have hW' := hW
  obtain ⟨p, q, hA0, hV, rfl, hfz, hnd⟩ := hW
  have hA : DataW.TrodAll enc Try.prog W 0 (fun _ => true) true Try.f4.params.toList args.toList ds p := hA0
  rw [Try.params4] at hA hval
  obtain ⟨v1, vs1, e1, ds1, p1, q1, hargs1, hds1, hp1, h1, r1⟩ := trodAll_cons hA
  obtain ⟨v2, vs2, e2, ds2, p2, q2, hargs2, hds2, hp2, h2, r2⟩ := trodAll_cons r1
  obtain ⟨v3, vs3, e3, ds3, p3, q3, hargs3, hds3, hp3, h3, r3⟩ := trodAll_cons r2
  obtain ⟨v4, vs4, e4, ds4, p4, q4, hargs4, hds4, hp4, h4, r4⟩ := trodAll_cons r3
  obtain ⟨v5, vs5, e5, ds5, p5, q5, hargs5, hds5, hp5, h5, r5⟩ := trodAll_cons r4
  obtain ⟨v6, vs6, e6, ds6, p6, q6, hargs6, hds6, hp6, h6, r6⟩ := trodAll_cons r5
  obtain ⟨hv, hd, hq⟩ := trodAll_nil r6
  subst hv hd hq
  subst hds6
  subst hds5
  subst hds4
  subst hds3
  subst hds2
  subst hds1
  obtain rfl : args = #[v1, v2, v3, v4, v5, v6] := by
    apply Array.toList_inj.1; simp only [hargs1, hargs2, hargs3, hargs4, hargs5, hargs6]
  clear hA hA0
  obtain ⟨f1, a1, b1, c1, d1, rfl, hr1⟩ := open_fn (hval 0 25 v1 rfl rfl) h1
  obtain ⟨s2, l2, c2, rfl, hr2⟩ := open_arrs (hval 1 22 v2 rfl rfl) h2
  obtain ⟨s3, l3, c3, rfl, hr3⟩ := open_cont (hval 2 34 v3 rfl rfl) h3
  obtain ⟨s4, l4, c4, rfl, hr4⟩ := open_cont (hval 3 34 v4 rfl rfl) h4
  obtain ⟨s5, l5, c5, rfl, _, hr5⟩ := open_words (hval 4 35 v5 rfl rfl) h5
  obtain ⟨a6, rfl, _, _, w6⟩ := open_int Try.underlying3 (hval 5 3 v6 rfl rfl) h6
  refine (irRuns_any f1 l2 l3 l4 l5 a6 (wf64 w6) a1 b1 s2 s3 s4 s5 c1 d1 c2 c3 c4 c5 W hr1 hr2 hr3 hr4 hr5).mono fun e W' ⟨he, hB⟩ => ?_
  subst he
  exact ⟨_, rfl, law_post laidOut readable rfl rfl Try.underlying4 rfl hW' hB⟩

set_option maxRecDepth 100000 in
theorem lifted (os : Os) (started : os.Started) (H : Type) (enc : TypeId × Value → H) :
    ReturnsInHanded {} Try.checked os 4 .any (Rows.irRunsSpec.pre6 enc Try.prog Try.f4 Rows.irRunsRow.domain false) (Rows.irRunsSpec.post enc Try.prog Try.f4 false true false false) := by
  refine returnsInHanded_of_change (C := Try.checked) own started (by kernel_rfl) Try.func4
    (ChangeSpec.witness6 (enc := enc) (C := Try.checked) false ⟨#[], #[.agg #[.string ⟨#[]⟩, .int .i64 0, .slice none 0 0, .slice none 0 0], .slice none 0 0, .slice none 0 0, .slice none 0 0, .slice none 0 0, .int .i64 0], []⟩ 8 (by kernel_rfl) (by kernel_rfl) (by kernel_rfl) (by kernel_rfl)) ?_
  intro W base args ds gs before hval0 hW hcnd _
  exact contract H enc W base args ds gs before hval0 hW

theorem over : Rows.irRunsRow.holds Try.pinned (OpenSpec.ofChange Rows.irRunsSpec) :=
  OpenClaim.holds_of_wide 4 Try.f4 rfl rfl rfl rfl rfl rfl rfl ⟨rfl, rfl, rfl, rfl, rfl⟩ rfl rfl rfl rfl rfl (by kernel_rfl) Try.func4 (by kernel_rfl)
    (of_decide_eq_true (by kernel_rfl)) (by unfold Func.isWrapper; first | (rw [if_pos (by decide +kernel)]; kernel_rfl) | (rw [if_neg (by decide +kernel)]; exact ⟨rfl, rfl⟩))
    (fun os started H enc _ => lifted os started H enc)

theorem proved : Rows.IrRunsSaid :=
  over
#print axioms proved
end Go.Proofs.Ytjdfcpjlmfaaaaa.irRuns
