/-
  A law's last step, whatever its parameters: it returned true, and nothing that lay there has changed. No program is named here.
-/
import Derived.Test.YtjdfcpjlmfaaaaaPost
import Derived.WideKeyArgs
import Derived.OpenShut
namespace Go.Proofs.Ytjdfcpjlmfaaaaa
set_option linter.unusedVariables false
set_option linter.unusedSimpArgs false
open Go.RowKit Go.WideShapes Go.ChangeShapes Go.ChangeAt
section
variable {H : Type} {enc : TypeId × Value → H} {P : Program}
theorem args_again {W W' : World} {sp : Nat → Bool} (hl : laidOutB P = true) (hb : Below W.heap.size W W') : ∀ (ts : List TypeId) (vs : List Value) (ds : List (DataW H)) (ps : List MemPlace),
    (∀ t ∈ ts, P.readableRec t = true ∧ t < P.types.size) → DataW.TrodAll enc P W 0 (fun _ => true) true ts vs ds ps → (∀ p ∈ ps, p.block < W.heap.size) → (∀ p ∈ ps, sp p.block = true) →
    DataW.TrodAll enc P W' 0 sp true ts vs ds ps := by
  intro ts
  induction ts with
  | nil =>
    intro vs ds ps _ h _ _
    obtain ⟨rfl, rfl, rfl⟩ := trodAll_nil h
    exact trodAll_mk0
  | cons t ts ih =>
    intro vs ds ps ht h h1 h2
    obtain ⟨v, vs', d, ds', p, q, rfl, rfl, rfl, hv, hr⟩ := trodAll_cons h
    obtain ⟨r1, r2⟩ := ht t (by simp)
    refine trodAll_cons_mk (Go.WideElems.Trod_stays hl r1 r2 hv (fun p hp => hb.same (h1 p (by simp [hp]))) (fun p hp => h2 p (by simp [hp]))) (ih _ _ _ (fun t h => ht t (by simp [h])) hr (fun p hp => h1 p (by simp [hp])) (fun p hp => h2 p (by simp [hp])))

theorem law_post {f : Func} {s : ChangeSpec} {tb : TypeId} {apart fresh handsOn again : Bool} {W W' : World} {args : Array Value} {ds gs : List (DataW H)} {before : List MemPlace}
    (hl : laidOutB P = true) (hts : ∀ t ∈ f.params.toList, P.readableRec t = true ∧ t < P.types.size) (hv : s.vars = []) (hr : f.resultTypes = #[tb]) (hb : P.underlying tb = some .bool)
    (hs : s.fn H ds = { results := [.lit (.bool true)], args := ds })
    (hW : DataW.Whole enc P f.params.toList s.vars apart W args.toList ds gs before) (hB : Below W.heap.size W W') :
    s.post enc P f apart fresh handsOn again W args (.bool true) W' := by
  have hW' := hW
  have hlt : ∀ p ∈ before, p.block < W.heap.size := fun p hp => hW'.lt p hp
  obtain ⟨p, q, hA, hV, rfl, hfz, hnd⟩ := hW
  rw [hv] at hV
  obtain ⟨rfl, rfl⟩ := trodVars_none hV
  rw [List.append_nil] at hW' hlt
  refine post_of_below (pa := p) (pv := []) hW' ?_ ?_ ?_ (by simp) hB ?_
  · intro b sp hd
    rw [List.append_nil, hs, hr]
    exact trodAll_cons_mk (shut_bool hb _) trodAll_mk0
  · intro sp hsp
    rw [List.append_nil, hs]
    exact args_again hl hB _ _ _ _ hts hA hlt hsp
  · intro sp _
    rw [List.append_nil, hs, hv]
    rfl
  · rw [hr]
    intro j t r h1 h2
    match j with
    | 0 =>
      simp at h1
      subst h1
      have : r = .bool true := by simpa [Value.resultList] using h2.symm
      subst this
      exact okWide_bool_mk hb _
    | j + 1 => simp at h1
end
end Go.Proofs.Ytjdfcpjlmfaaaaa
