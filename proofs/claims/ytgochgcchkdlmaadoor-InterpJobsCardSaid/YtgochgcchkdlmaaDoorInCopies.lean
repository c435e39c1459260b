/-
  InCopies: several texts in one (RegionZ, InCopy, InApartP).
-/
import Derived.Test.YtgochgcchkdlmaaDoorPuts
import Derived.Deep.RegionHeld
import Derived.StillTail
import Derived.Test.YtgochgcchkdlmaaDoorInJobs
import Derived.Test.YtgochgcchkdlmaaDoorInNews
import Derived.Test.YtgochgcchkdlmaaDoorInLawFuel
/-
  Regions whose last operations write: an operation that these wait for may be taken first, although they turn what it reads. No program is named here.
-/
namespace Go.Proofs.YtgochgcchkdlmaaDoor
set_option linter.unusedVariables false
set_option linter.unusedSimpArgs false
open Go

section
variable {P : Program} {ops : Array Oper} {Q : Exit → Act → World → Prop} {md : Region.Mode} {S : World → Prop} {z : Nat}
/-- whatever order is picked, and S holds behind every operation below z -/
def wpAnyZ (P : Program) (md : Region.Mode) (ops : Array Oper) (Q : Exit → Act → World → Prop) (S : World → Prop) (z : Nat) : Nat → Array Bool → Act → World → Prop
  | 0, listed, a, w => Region.ready md ops listed = [] ∧ Q .normal a w
  | fuel + 1, listed, a, w =>
    (Region.ready md ops listed = [] → Q .normal a w) ∧
    ∀ i ∈ Region.ready md ops listed, wpOp P ops Q i (fun a' w' => (i < z → S w') ∧ wpAnyZ P md ops Q S z fuel (listed.setIfInBounds i true) a' w') a w
theorem wpAny_of_Z : ∀ (fuel : Nat) (listed : Array Bool) (a : Act) (w : World), wpAnyZ P md ops Q S z fuel listed a w → wpAny P md ops Q fuel listed a w
  | 0, _, _, _, h => h
  | fuel + 1, _, _, _, h => ⟨h.1, fun i hi => wpOp_mono (fun a' w' h' => wpAny_of_Z fuel _ a' w' h'.2) (h.2 i hi)⟩
/-- all operations from z on wait for operation i -/
def tailWaits (md : Region.Mode) (ops : Array Oper) (z i : Nat) : Bool := (List.range ops.size).all fun j => decide (j < z) || Region.waitsFor md ops j i
theorem wpAnyZ_first {i : Nat} {oi : Oper} {v : Value} (hi : ops[i]? = some oi) (hsel : ∀ (j : Nat) (o : Oper) cs b, ops[j]? = some o → o.op ≠ .select cs b) (hz : tailWaits md ops z i = true)
    (hQ : ∀ c a w, Q (.panic c) (a.put oi.dst v) w → Q (.panic c) a w) :
    ∀ (fuel : Nat) (listed : Array Bool) (a : Act) (w : World),
      (∀ j oj, ops[j]? = some oj → j ≠ i → listed.getD j true = false → (∀ e ∈ oj.after, Region.binds md e = true → e.on ≠ i) → oi.apart ops oj = true) →
      i ∈ Region.ready md ops listed → YieldsIf P ops S oi v a → S w →
      wpAnyZ P md ops Q S z fuel (listed.setIfInBounds i true) (a.put oi.dst v) w → wpAnyZ P md ops Q S z (fuel + 1) listed a w := by
  intro fuel
  induction fuel with
  | zero =>
    intro listed a w _ hr hy hS H
    refine ⟨fun h => (by rw [h] at hr; cases hr), fun j hj => ?_⟩
    by_cases hji : j = i
    · subst hji; exact hy.wpOp hi hS ⟨fun _ => hS, H⟩
    · have := ready_mono hj hji
      rw [H.1] at this
      cases this
  | succ fuel ih =>
    intro listed a w hfree hr hy hS H
    refine ⟨fun h => (by rw [h] at hr; cases hr), fun j hj => ?_⟩
    by_cases hji : j = i
    · subst hji; exact hy.wpOp hi hS ⟨fun _ => hS, H⟩
    · have h1 := H.2 j (ready_mono hj hji)
      obtain ⟨hjun, oj, hoj, hall⟩ := mem_ready.1 hj
      have hnot : ∀ e ∈ oj.after, Region.binds md e = true → e.on ≠ i := fun e he hb heq => by
        have h1 := hall e he hb
        have h0 := (mem_ready.1 hr).1
        rw [heq] at h1
        rcases Nat.lt_or_ge i listed.size with h' | h'
        · simp [h'] at h0 h1; rw [h0] at h1; cases h1
        · simp [Array.getElem?_eq_none h'] at h1
      have hjz : j < z := by
        unfold tailWaits at hz
        have hjs : j < ops.size := (Array.getElem?_eq_some_iff.1 hoj).1
        have h4 := List.all_eq_true.1 hz j (List.mem_range.2 hjs)
        rw [Bool.or_eq_true, decide_eq_true_eq] at h4
        rcases h4 with h4 | h4
        · exact h4
        · obtain ⟨oj', hoj', e, he, hb, hon⟩ := Region.waitsFor_spec h4
          rw [hoj] at hoj'
          cases hoj'
          exact absurd hon (hnot e he hb)
      have h2 := wpOp_putIf hoj (hfree j oj hoj hji hjun hnot) (fun cs b => hsel i oi cs b hi) (fun cs b => hsel j oj cs b hoj) hQ hy h1
      have hfree' : ∀ k ok, ops[k]? = some ok → k ≠ i → (listed.setIfInBounds j true).getD k true = false →
          (∀ e ∈ ok.after, Region.binds md e = true → e.on ≠ i) → oi.apart ops ok = true := fun k ok hk hki hun hno => by
        refine hfree k ok hk hki ?_ hno
        by_cases hjk : j = k
        · subst hjk; exact hjun
        · rw [getD_set_ne true hjk] at hun; exact hun
      refine wpOp_mono (fun a' w' h3 => ⟨fun _ => h3.2.1 hjz, ih (listed.setIfInBounds j true) a' w' hfree' (ready_mono hr (Ne.symm hji)) h3.1 (h3.2.1 hjz) ?_⟩) h2
      rw [Array.setIfInBounds_comm _ _ hji]
      exact h3.2.2
theorem wpAnyZ_take {i : Nat} {oi : Oper} {v : Value} {fuel : Nat} {listed : Array Bool} {a : Act} {w : World} (hi : ops[i]? = some oi)
    (hs : Region.noSelect ops = true) (hf : Region.free md ops listed i = true) (hr : (Region.ready md ops listed).contains i = true) (hz : tailWaits md ops z i = true)
    (hQ : ∀ c a w, Q (.panic c) (a.put oi.dst v) w → Q (.panic c) a w) (hy : YieldsIf P ops S oi v a) (hS : S w)
    (h : wpAnyZ P md ops Q S z fuel (listed.setIfInBounds i true) (a.put oi.dst v) w) : wpAnyZ P md ops Q S z (fuel + 1) listed a w :=
  wpAnyZ_first hi (Region.noSelect_spec hs) hz hQ fuel listed a w (Region.free_spec hi hf) (by simpa using hr) hy hS h
/-- the same, its side conditions by the kernel -/
theorem zT {fuel : Nat} {listed : Array Bool} {a : Act} {w : World} (i : Nat) (v : Value) {oi : Oper} (hi : ops[i]? = some oi) (hs : Region.noSelect ops = true := by kernel_rfl) (hf : Region.free md ops listed i = true := by kernel_rfl)
    (hr : (Region.ready md ops listed).contains i = true := by kernel_rfl) (hz : tailWaits md ops z i = true := by kernel_rfl) (hQ : ∀ c a w, Q (.panic c) (a.put oi.dst v) w → Q (.panic c) a w := by exact fun _ _ _ h => h) (hw : Region.wanted oi (yielded ops a.tmps) = true := by rfl) (hS : S w := by assumption)
    (hy : ∀ w, S w → (execOp a.eval oi).run P w = .ok (.value v) w) (h : wpAnyZ P md ops Q S z fuel (listed.setIfInBounds i true) (a.put oi.dst v) w) : wpAnyZ P md ops Q S z (fuel + 1) listed a w :=
  wpAnyZ_take hi hs hf hr hz hQ (Or.inl ⟨hw, hy⟩) hS h
theorem wpAnyZ_all {rs : List Nat} {fuel : Nat} {listed : Array Bool} {a : Act} {w : World} (hr : Region.ready md ops listed = rs) (hne : rs ≠ [])
    (h : ∀ i ∈ rs, wpOp P ops Q i (fun a' w' => (i < z → S w') ∧ wpAnyZ P md ops Q S z fuel (listed.setIfInBounds i true) a' w') a w) : wpAnyZ P md ops Q S z (fuel + 1) listed a w :=
  ⟨fun h0 => absurd (hr ▸ h0) hne, hr ▸ h⟩
theorem wpAnyZ_done {listed : Array Bool} {a : Act} {w : World} (hr : Region.ready md ops listed = []) (h : Q .normal a w) :
    ∀ fuel, wpAnyZ P md ops Q S z fuel listed a w
  | 0 => ⟨hr, h⟩
  | _ + 1 => ⟨fun _ => h, by rw [hr]; simp⟩
def AllReadyZ (P : Program) (md : Region.Mode) (ops : Array Oper) (Q : Exit → Act → World → Prop) (S : World → Prop) (z fuel : Nat) (listed : Array Bool) (a : Act) (w : World) (rs : List Nat) : Prop :=
  ∀ i ∈ rs, wpOp P ops Q i (fun a' w' => (i < z → S w') ∧ wpAnyZ P md ops Q S z fuel (listed.setIfInBounds i true) a' w') a w
theorem AllReadyZ.nil {fuel : Nat} {listed : Array Bool} {a : Act} {w : World} : AllReadyZ P md ops Q S z fuel listed a w [] := fun _ h => by cases h
theorem AllReadyZ.cons {fuel : Nat} {listed : Array Bool} {a : Act} {w : World} {i : Nat} {o : Oper} {rs : List Nat} (ho : ops[i]? = some o)
    (h : ∀ K' : Act → World → Prop, Shut (∀ a w, S w → (S w → wpAnyZ P md ops Q S z fuel (listed.setIfInBounds i true) a w) → K' a w) → if Region.wanted o (yielded ops a.tmps) = true then Oper.wp P o a w K' Q else K' (a.put o.dst undef) w)
    (hs : AllReadyZ P md ops Q S z fuel listed a w rs) : AllReadyZ P md ops Q S z fuel listed a w (i :: rs) := fun j hj => by
  rcases List.mem_cons.1 hj with rfl | hj
  · exact wpOp_step ho (fun K' hK => h K' (fun a w hS hW => hK a w ⟨fun _ => hS, hW hS⟩))
  · exact hs j hj
/-- one of the last: S is not asked behind it -/
theorem AllReadyZ.last {fuel : Nat} {listed : Array Bool} {a : Act} {w : World} {i : Nat} {o : Oper} {rs : List Nat} (ho : ops[i]? = some o) (hi : z ≤ i)
    (h : ∀ K' : Act → World → Prop, Shut (∀ a w, wpAnyZ P md ops Q S z fuel (listed.setIfInBounds i true) a w → K' a w) → if Region.wanted o (yielded ops a.tmps) = true then Oper.wp P o a w K' Q else K' (a.put o.dst undef) w)
    (hs : AllReadyZ P md ops Q S z fuel listed a w rs) : AllReadyZ P md ops Q S z fuel listed a w (i :: rs) := fun j hj => by
  rcases List.mem_cons.1 hj with rfl | hj
  · exact wpOp_step ho (fun K' hK => h K' (fun a w hW => hK a w ⟨fun hlt => absurd hlt (by omega), hW⟩))
  · exact hs j hj
theorem wpAnyZ_ready {rs : List Nat} {fuel : Nat} {listed : Array Bool} {a : Act} {w : World} (hr : Region.ready md ops listed = rs) (hne : rs ≠ [])
    (h : AllReadyZ P md ops Q S z fuel listed a w rs) : wpAnyZ P md ops Q S z (fuel + 1) listed a w := wpAnyZ_all hr hne h
theorem zR {fuel : Nat} {listed : Array Bool} {a : Act} {w : World} (i : Nat) {o : Oper} (ho : ops[i]? = some o)
    (h : ∀ K' : Act → World → Prop, Shut (∀ a w, S w → (S w → wpAnyZ P md ops Q S z fuel (listed.setIfInBounds i true) a w) → K' a w) → if Region.wanted o (yielded ops a.tmps) = true then Oper.wp P o a w K' Q else K' (a.put o.dst undef) w)
    (hr : Region.ready md ops listed = [i] := by kernel_rfl) : wpAnyZ P md ops Q S z (fuel + 1) listed a w := wpAnyZ_ready hr (by simp) (AllReadyZ.cons ho h AllReadyZ.nil)
theorem wp_region_z {id : Nat} (z : Nat) {a : Act} {w : World} (hm : P.follows .mixedOrders = true) (hS : S w.drew)
    (h : S w.drew → wpAnyZ P .any ops Q S z ops.size (Array.replicate ops.size false) a w.drew) : (Code.region id ops true).wp P Q a w :=
  wp_region_any hm (wpAny_of_Z _ _ _ _ (h hS))
end
end Go.Proofs.YtgochgcchkdlmaaDoor

/-
  Contract: Clone (package ontimelaw16): a copy of a memory, all of it of the call's own.
-/
namespace Go.Proofs.YtgochgcchkdlmaaDoor
set_option linter.unusedVariables false
set_option linter.unusedSimpArgs false
open Go.RowKit Go.Maps
set_option maxRecDepth 100000
set_option maxHeartbeats 80000000

theorem cont_info' : (Tryd.prog.info? 27).map (fun i => (i.zero, i.size, i.bytes)) = some (some (.slice none 0 0), 1, 24) := by kernel_rfl
/-- a memory of the call's own: the shared rows below N1, the others from there on -/
structure MOwn (N N1 : Nat) (w : World) (M : Mem) (av : Value) (avs : List Value) (aus : List (List Value)) (sv : Value) (svs : List Value) : Prop where
  arrs : L3Own N1 w av avs aus M.arrays
  shared : LOwn N w sv svs M.shared
  le : N ≤ N1
  lows : ∀ b, sv.ownBlock = some b → b < N1
  low : ∀ (k : Nat) (u : Value) (b : Nat), svs[k]? = some u → u.ownBlock = some b → b < N1
theorem LOwn.blk {N : Nat} {w : World} {v : Value} {vs : List Value} {L : List (List Int)} (h : LOwn N w v vs L) {k : Nat} {u : Value} {b : Nat} (hu : vs[k]? = some u) (hb : u.ownBlock = some b) : N ≤ b ∧ b < w.heap.size := by
  have hl := h.len
  have hk := (List.getElem?_eq_some_iff.1 hu).1
  obtain ⟨u', h1, h2⟩ := h.ri k _ (List.getElem?_eq_getElem (show k < L.length by omega))
  rw [hu] at h1
  cases h1
  exact own_lt h2 hb
abbrev zMem : Obj := .cells #[.slice none 0 0, .slice none 0 0] 29
theorem clone16_any (M : Mem) (w : World) (ma ms : Option Addr) (mac msc : Nat) (hm : MemAt w M ma ms) (hS : M.shared.length ≤ 1000 ∧ ∀ r ∈ M.shared, r.length ≤ 1000) (hA : M.arrays.length ≤ 1000 ∧ ∀ t ∈ M.arrays, t.length ≤ 1000 ∧ ∀ r ∈ t, r.length ≤ 1000) :
    Calls Tryd.prog 13 #[M.val ma mac ms msc] w fun e w' => ∃ aa ac sa sc vs us ss N1, e = .returned (M.val aa ac sa sc) ∧ MOwn w.heap.size N1 w' M (.slice aa M.arrays.length ac) vs us (.slice sa M.shared.length sc) ss ∧ Below w.heap.size w w' := by
  obtain ⟨i0, hi0, hz00, hz01, hz02⟩ := info_parts i32_info
  obtain ⟨i1, hi1, hz10, hz11, hz12⟩ := info_parts row_info
  obtain ⟨i2, hi2, hz20, hz21, hz22⟩ := info_parts cont_info'
  have hmf := hm.1.fits
  have hmsf := hm.2.fits
  obtain ⟨W1, hW1⟩ : ∃ W : World, w.alloc (memObj M ma mac ms msc) = W := ⟨_, rfl⟩
  obtain ⟨W2, hW2⟩ : ∃ W : World, W1.alloc zMem = W := ⟨_, rfl⟩
  obtain ⟨W3, hW3⟩ : ∃ W : World, W2.alloc zMem = W := ⟨_, rfl⟩
  have b1 : Below w.heap.size w W1 := by rw [← hW1]; exact mem_alloc _ _
  have b2 : Below W1.heap.size W1 W2 := by rw [← hW2]; exact mem_alloc _ _
  have b3 : Below W2.heap.size W2 W3 := by rw [← hW3]; exact mem_alloc _ _
  have HLT : Hid (w.heap.size < W1.heap.size ∧ W1.heap.size < W2.heap.size ∧ W2.heap.size < W3.heap.size) := by
    refine ⟨?_, ?_, ?_⟩
    · rw [← hW1]; simp
    · rw [← hW2]; simp
    · rw [← hW3]; simp
  have HXM : Hid (W3.heap[w.heap.size]? = some (memObj M ma mac ms msc)) := mem_keep (by rw [← hW1]; exact mem_new _ _) (mem_then b2 b3)
  have HXR : Hid (W3.heap[W1.heap.size]? = some zMem) := mem_keep (by rw [← hW2]; exact mem_new _ _) b3
  have HXC : Hid (W3.heap[W2.heap.size]? = some zMem) := by show _ = _; rw [← hW3]; exact mem_new _ _
  have HB3 : Hid (Below w.heap.size w W3) := mem_then (mem_then b1 b2) b3
  have HM := Lib.hid hm
  have HS := Lib.hid hS
  have HA := Lib.hid hA
  have hsl := hS.1
  have hal := hA.1
  obtain ⟨x0, x1⟩ := mem_two HXM.out
  clear hm hS hA b1 b2 b3
  go_enter Tryd.func13, Tryd.ntmps13
  go_upto_region 3 with fail
  clear x0 x1 hW1 hW2 hW3
  go_loopw [14] (fun iv wr => ∃ (j : Nat) (v : Value) (vs : List Value), j ≤ M.shared.length ∧ iv = .int .i64 (j : Int) ∧ (wr.heap[w.heap.size]? = some (memObj M ma mac ms msc) ∧ wr.heap[W1.heap.size]? = some zMem ∧ wr.heap[W2.heap.size]? = some (.cells #[.slice none 0 0, v] 29)) ∧ LOwn W3.heap.size wr v vs (M.shared.take j) ∧ Below w.heap.size w wr ∧ W3.heap.size ≤ wr.heap.size) (fun iv _ => M.shared.length - (intOf iv).toNat)
  case atStart => exact ⟨0, _, [], Nat.zero_le _, rfl, ⟨HXM.out, HXR.out, HXC.out⟩, by rw [List.take_zero]; exact LOwn.nil, HB3.out, Nat.le_refl _⟩
  case round =>
    obtain ⟨j, v, vs, hj, rfl, hbx, hown, hB, hsz⟩ := hrel
    have HBX := Lib.hid hbx
    have HOWN := Lib.hid hown
    have HB := Lib.hid hB
    have HSZ := Lib.hid hsz
    have hj0 : (0 : Int) ≤ (j : Int) := by omega
    obtain ⟨va, vc, rfl⟩ := own_val hown.ro
    have htl : (M.shared.take j).length = j := by rw [List.length_take]; omega
    have HTL := Lib.hid htl
    rw [htl] at HBX HOWN
    have HVR : Hid (wr.ownsRow W3.heap.size 30 1 (.slice va j vc) j vs) := by have h := HOWN.out.ro; rw [HTL.out] at h; exact h
    clear hbx hown hB htl hsz
    by_cases hlt : j < M.shared.length
    · skip
      have hlt2 : (j : Int) < (M.shared.length : Int) := by omega
      obtain ⟨r, hr⟩ : ∃ r, M.shared[j]? = some r := ⟨_, List.getElem?_eq_getElem hlt⟩
      have hrl := HS.out.2 r (List.mem_of_getElem? hr)
      obtain ⟨mb, mo, rfl, ra, rc, hcell, _, hw⟩ := (HM.out.2.below HB.out).row hr
      have HWR := Lib.hid hw
      have hrf := hw.fits
      have HTK : Hid (M.shared.take (j + 1) = M.shared.take j ++ [r]) := by show _ = _; rw [List.take_add_one, hr]; rfl
      clear hr hw
      go_upto_region 5 with fail
      clear hcell
      have hD0 : Below wr.heap.size wr (World.drew wr) := (Below.refl _ _).drew
      refine wp_region_z 8 (S := fun w' => Below w.heap.size w w' ∧ w'.heap[W2.heap.size]? = some (.cells #[.slice none 0 0, .slice va j vc] 29)) (by kernel_rfl) ⟨mem_then HB.out hD0, mem_keep HBX.out.2.2 hD0⟩ (fun hHeld => ?_)
      generalize hwd : World.drew wr = v1 at hHeld hD0 ⊢
      clear hwd
      have HD0 := Lib.hid hD0
      clear hD0
      refine zT 0 (.pointer (some ⟨W2.heap.size, 1, none⟩)) rfl (hy := ?_) (h := ?_)
      · intro w' hSw; go_simp
      (try simp only [Act.put, pA, pB, pD, pE, pF])
      refine zT 1 (.slice va j vc) rfl (hy := ?_) (h := ?_)
      · intro w' hSw; obtain ⟨z0, z1⟩ := mem_two hSw.2; go_simp
      (try simp only [Act.put, pA, pB, pC, pD, pE, pF])
      refine zT 3 (.slice ra r.length rc) rfl (hy := ?_) (h := ?_)
      · intro w' hSw; go_simp
      (try simp only [Act.put, pA, pB, pC, pD, pE, pF])
      refine zR 2 rfl (fun K hK => ?_)
      go_simp
      obtain ⟨v2, hv2⟩ : ∃ V : World, v1.alloc (.cells #[] 21) = V := ⟨_, rfl⟩
      rw [hv2]
      have hB2 : Below v1.heap.size v1 v2 := by rw [← hv2]; exact mem_alloc _ _
      have HMADE : Hid (v2.ownsRow wr.heap.size 21 1 (.slice (some ⟨v1.heap.size, 0, none⟩) 0 0) 0 []) := by
        show World.ownsRow _ _ _ _ _ _ _
        rw [← hv2]
        exact World.ownsRow_made _ #[] 0 HD0.out.size (by unfold maxLen; omega) rfl
      have HB2 := Lib.hid (mem_then HD0.out hB2)
      have HSR := Lib.hid ((HWR.out.below HB2.out).src)
      clear hv2 hB2
      refine hK.out _ _ (⟨mem_then HB.out HB2.out, mem_keep HBX.out.2.2 HB2.out⟩) (fun hHeld => ?_)
      clear hK K
      rename_i hOld
      clear hOld
      (try simp only [Act.put, pA, pB, pC, pD, pE, pF])
      refine zR 4 rfl (fun K hK => ?_)
      refine step_append_src _ rfl (.tmp 20) (.tmp 21) 30 rfl wr.heap.size 21 i0 _ 1 4 Tryd.underlying30 hi0 hz00 hz01 hz02 rfl (by decide) (.slice (some ⟨v1.heap.size, 0, none⟩) 0 0) 0 [] (by simp [Act.eval]) HMADE.out ra r.length rc (i32s r) (by simp [Act.eval]) HSR.out (i32s_one r) (by unfold maxLen; omega) (by omega) HB2.out.size ?_
      intro u3 w3 hown3 hgrow3 _
      have hB3 : Below wr.heap.size wr w3 := HB2.out.grown hgrow3 HB2.out.size (fun b hb => (own_lt HMADE.out hb).1)
      have hown3 : w3.ownsRow wr.heap.size 21 1 u3 r.length (i32s r) := by simpa using hown3
      obtain ⟨ua, uc, rfl⟩ := own_val hown3
      have HU := Lib.hid hown3
      have HB3' := Lib.hid hB3
      clear hown3 hgrow3 hB3 HMADE HSR
      refine hK.out _ _ (⟨mem_then HB.out HB3'.out, mem_keep HBX.out.2.2 HB3'.out⟩) (fun hHeld => ?_)
      clear hK K
      rename_i hOld
      clear hOld
      (try simp only [Act.put, pA, pB, pC, pD, pE, pF])
      refine zR 5 rfl (fun K hK => ?_)
      go_simp
      obtain ⟨v4, hv4⟩ : ∃ V : World, w3.alloc (.cells #[.slice ua r.length uc] 30) = V := ⟨_, rfl⟩
      rw [hv4]
      have hB4 : Below w3.heap.size w3 v4 := by rw [← hv4]; exact mem_alloc _ _
      have HX4 : Hid (v4.heap[w3.heap.size]? = some (.cells #[.slice ua r.length uc] 30)) := by show _ = _; rw [← hv4]; exact mem_new _ _
      have HB4 := Lib.hid (mem_then HB3'.out hB4)
      have HU4 := Lib.hid (own_below HU.out hB4)
      clear hv4 hB4
      refine hK.out _ _ (⟨mem_then HB.out HB4.out, mem_keep HBX.out.2.2 HB4.out⟩) (fun hHeld => ?_)
      clear hK K
      rename_i hOld
      clear hOld
      (try simp only [Act.put, pA, pB, pC, pD, pE, pF])
      refine zR 6 rfl (fun K hK => ?_)
      refine step_append_src _ rfl (.tmp 19) (.tmp 23) 27 rfl W3.heap.size 30 i1 _ 1 24 Tryd.underlying27 hi1 hz10 hz11 hz12 rfl (by decide) (.slice va j vc) j vs (by simp [Act.eval]) (own_below HVR.out HB4.out) (some ⟨w3.heap.size, 0, none⟩) 1 1 [.slice ua r.length uc] (by simp [Act.eval]) (src_new HX4.out rfl) (by simp [Value.oneCell']) (by unfold maxLen; omega) (by omega) (Nat.le_trans HSZ.out HB4.out.size) ?_
      intro r9 w9 hown hgrow _
      obtain ⟨ra9, rc9, rfl⟩ := own_val hown
      have keep9 : ∀ (k : Nat) arr t, wr.heap[k]? = some (.cells arr t) → t ≠ 30 → w9.heap[k]? = some (.cells arr t) := fun k arr t hk ht => grown_other (own_below HVR.out HB4.out) hgrow _ _ _ (mem_keep hk HB4.out) ht
      have HX9 : Hid (w9.heap[w.heap.size]? = some (memObj M ma mac (some ⟨mb, mo, none⟩) msc) ∧ w9.heap[W1.heap.size]? = some zMem ∧ w9.heap[W2.heap.size]? = some (.cells #[.slice none 0 0, .slice va j vc] 29)) := ⟨keep9 _ _ _ HBX.out.1 (by decide), keep9 _ _ _ HBX.out.2.1 (by decide), keep9 _ _ _ HBX.out.2.2 (by decide)⟩
      have HL9 : Hid (LOwn W3.heap.size w9 (.slice ra9 (j + 1) rc9) (vs ++ [.slice ua r.length uc]) (M.shared.take (j + 1))) := by
        show LOwn _ _ _ _ _
        rw [HTK.out]
        refine HOWN.out.push HB4.out HU4.out HSZ.out ?_ ?_
        · exact hgrow
        · rw [HTL.out]; exact hown
      have HB9 : Hid (Below w.heap.size w w9) := (mem_then HB.out HB4.out).grown hgrow (mem_then HB.out HB4.out).size (fun b hb => by have := (own_lt (own_below HVR.out HB4.out) hb).1; have := HLT.out; omega)
      have HSZ9 : Hid (W3.heap.size ≤ w9.heap.size) := by have h1 := HSZ.out; have h2 := HB4.out.size; have h3 := hgrow.size; show _ ≤ _; omega
      clear hown hgrow keep9
      refine hK.out _ _ (⟨HB9.out, HX9.out.2.2⟩) (fun hHeld => ?_)
      clear hK K
      rename_i hOld
      clear hOld
      (try simp only [Act.put, pA, pB, pC, pD, pE, pF])
      refine zT 7 (.pointer (some ⟨W2.heap.size, 1, none⟩)) rfl (hy := ?_) (h := ?_)
      · intro w' hSw; go_simp
      (try simp only [Act.put, pA, pB, pC, pD, pE, pF])
      obtain ⟨c0, c1⟩ := mem_two HX9.out.2.2
      have f1 := mem_free HX9.out.2.2 1
      refine wpAnyZ_ready (rs := [8]) (by kernel_rfl) (by simp) (AllReadyZ.last rfl (by decide) (fun K hK => ?_) AllReadyZ.nil)
      go_simp
      refine hK.out _ _ ?_
      clear hK K
      (try simp only [Act.put, pA, pB, pC, pD, pE, pF])
      clear c0 c1 f1 hHeld
      refine wpAnyZ_done (by kernel_rfl) ?_ _
      have HXF : Hid ((w9.setCell ⟨W2.heap.size, 1, none⟩ (.slice ra9 (j + 1) rc9)).heap[w.heap.size]? = some (memObj M ma mac (some ⟨mb, mo, none⟩) msc) ∧ (w9.setCell ⟨W2.heap.size, 1, none⟩ (.slice ra9 (j + 1) rc9)).heap[W1.heap.size]? = some zMem ∧ (w9.setCell ⟨W2.heap.size, 1, none⟩ (.slice ra9 (j + 1) rc9)).heap[W2.heap.size]? = some (.cells #[.slice none 0 0, .slice ra9 (j + 1) rc9] 29)) := by
        have h1 := HLT.out
        refine ⟨?_, ?_, ?_⟩
        · rw [Below.heap_setCell _ _ _ _ (by show w.heap.size ≠ W2.heap.size; omega)]; exact HX9.out.1
        · rw [Below.heap_setCell _ _ _ _ (by show W1.heap.size ≠ W2.heap.size; omega)]; exact HX9.out.2.1
        · rw [mem_set HX9.out.2.2]; rfl
      have HLF : Hid (LOwn W3.heap.size (w9.setCell ⟨W2.heap.size, 1, none⟩ (.slice ra9 (j + 1) rc9)) (.slice ra9 (j + 1) rc9) (vs ++ [.slice ua r.length uc]) (M.shared.take (j + 1))) := HL9.out.move (T := 29) (by decide) (by decide) (set_other HX9.out.2.2)
      have HBF : Hid (Below w.heap.size w (w9.setCell ⟨W2.heap.size, 1, none⟩ (.slice ra9 (j + 1) rc9))) := HB9.out.setCell (p := ⟨W2.heap.size, 1, none⟩) (by have := HLT.out; show w.heap.size ≤ W2.heap.size; omega) _
      have HSF : Hid (W3.heap.size ≤ (w9.setCell ⟨W2.heap.size, 1, none⟩ (.slice ra9 (j + 1) rc9)).heap.size) := by have := HSZ9.out; show _ ≤ _; simp; omega
      go_wp2_with fail
      go_roundw
      case rel => exact ⟨j + 1, .slice ra9 (j + 1) rc9, _, by omega, by go_num, HXF.out, HLF.out, HBF.out, HSF.out⟩
      case measure => simp [intOf]; omega
    · skip
      obtain rfl : j = M.shared.length := by omega
      have HOS : Hid (LOwn W3.heap.size wr (.slice va M.shared.length vc) vs M.shared) := by
        have h := HOWN.out
        rw [List.take_length] at h
        exact h
      have HVL : Hid ((∀ b, (Value.slice va M.shared.length vc).ownBlock = some b → b < wr.heap.size) ∧ ∀ (k : Nat) (u : Value) (b : Nat), vs[k]? = some u → u.ownBlock = some b → b < wr.heap.size) := ⟨fun b hb => (own_lt HOS.out.ro hb).2, fun k u b hu hb => (HOS.out.blk hu hb).2⟩
      obtain ⟨x0, x1⟩ := mem_two HBX.out.1
      clear HOWN HVR HTL
      go_upto_region 8 with fail
      clear x0 x1
      obtain ⟨wo, hwo⟩ : ∃ wo : World, wo = wr := ⟨_, rfl⟩
      subst hwo
      go_loopw [30] (fun iv wr => ∃ (j : Nat) (v : Value) (us : List Value) (uss : List (List Value)), j ≤ M.arrays.length ∧ iv = .int .i64 (j : Int) ∧ (wr.heap[w.heap.size]? = some (memObj M ma mac ms msc) ∧ wr.heap[W1.heap.size]? = some zMem ∧ wr.heap[W2.heap.size]? = some (.cells #[v, .slice va M.shared.length vc] 29)) ∧ L3Own wo.heap.size wr v us uss (M.arrays.take j) ∧ LOwn W3.heap.size wr (.slice va M.shared.length vc) vs M.shared ∧ Below w.heap.size w wr ∧ wo.heap.size ≤ wr.heap.size) (fun iv _ => M.arrays.length - (intOf iv).toNat)
      case atStart => exact ⟨0, _, [], [], Nat.zero_le _, rfl, HBX.out, by rw [List.take_zero]; exact L3Own.nil, HOS.out, HB.out, Nat.le_refl _⟩
      case round =>
        obtain ⟨j, v, us, uss, hj, rfl, hbx, hown, hos, hB, hsz⟩ := hrel
        have HBY := Lib.hid hbx
        have HOWN := Lib.hid hown
        have HOS2 := Lib.hid hos
        have HBR := Lib.hid hB
        have HSZ2 := Lib.hid hsz
        have hj0 : (0 : Int) ≤ (j : Int) := by omega
        obtain ⟨ya, yc, rfl⟩ := own_val hown.ro
        have htl : (M.arrays.take j).length = j := by rw [List.length_take]; omega
        have HTL := Lib.hid htl
        rw [htl] at HBY HOWN
        have HVR : Hid (wr.ownsRow wo.heap.size 27 1 (.slice ya j yc) j us) := by have h := HOWN.out.ro; rw [HTL.out] at h; exact h
        clear hbx hown hos hB htl hsz
        by_cases hlt : j < M.arrays.length
        · have hlt2 : (j : Int) < (M.arrays.length : Int) := by omega
          obtain ⟨r, hr⟩ : ∃ r, M.arrays[j]? = some r := ⟨_, List.getElem?_eq_getElem hlt⟩
          obtain ⟨hrl, hrl2⟩ := HA.out.2 r (List.mem_of_getElem? hr)
          have HRL := Lib.hid hrl2
          obtain ⟨mb, mo, rfl, ra, rc, hcell, _, hw⟩ := (HM.out.1.below HBR.out).row hr
          have HWR := Lib.hid hw
          have hrf := hw.fits
          have HTK : Hid (M.arrays.take (j + 1) = M.arrays.take j ++ [r]) := by show _ = _; rw [List.take_add_one, hr]; rfl
          clear hr hw hrl2
          go_upto_region 12 with fail
          clear hcell
          obtain ⟨wp, hwp⟩ : ∃ wp : World, wp = wr := ⟨_, rfl⟩
          subst hwp
          go_loopw [8, 36] (fun v iv wx => ∃ (k : Nat) (qs : List Value), k ≤ r.length ∧ iv = .int .i64 (k : Int) ∧ LOwn wp.heap.size wx v qs (r.take k) ∧ Below wp.heap.size wp wx) (fun _ iv _ => r.length - (intOf iv).toNat)
          case atStart => exact ⟨0, [], Nat.zero_le _, rfl, by rw [List.take_zero]; exact LOwn.nil, Below.refl _ _⟩
          case round =>
            obtain ⟨k, qs, hk, rfl, hqo, hBk⟩ := hrel
            have HQO := Lib.hid hqo
            have HBK := Lib.hid hBk
            have hk0 : (0 : Int) ≤ (k : Int) := by omega
            obtain ⟨za, zc, rfl⟩ := own_val hqo.ro
            have htk : (r.take k).length = k := by rw [List.length_take]; omega
            have HTKL := Lib.hid htk
            rw [htk]
            have HZR : Hid (wr.ownsRow wp.heap.size 30 1 (.slice za k zc) k qs) := by have h := HQO.out.ro; rw [HTKL.out] at h; exact h
            clear hqo hBk htk
            by_cases hlk : k < r.length
            · have hlk2 : (k : Int) < (r.length : Int) := by omega
              obtain ⟨s, hs⟩ : ∃ s, r[k]? = some s := ⟨_, List.getElem?_eq_getElem hlk⟩
              have hsl2 := HRL.out s (List.mem_of_getElem? hs)
              obtain ⟨rb, ro, rfl, sa, sc, hcell, _, hw⟩ := (HWR.out.below HBK.out).row hs
              have hsf := hw.fits
              have HTKS : Hid (r.take (k + 1) = r.take k ++ [s]) := by show _ = _; rw [List.take_add_one, hs]; rfl
              obtain ⟨v2, hv2⟩ : ∃ V : World, wr.alloc (.cells #[] 21) = V := ⟨_, rfl⟩
              have hB2 : Below wr.heap.size wr v2 := by rw [← hv2]; exact mem_alloc _ _
              have HMADE : Hid (v2.ownsRow wr.heap.size 21 1 (.slice (some ⟨wr.heap.size, 0, none⟩) 0 0) 0 []) := by
                show World.ownsRow _ _ _ _ _ _ _
                rw [← hv2]
                exact World.ownsRow_made _ #[] 0 (Nat.le_refl _) (by unfold maxLen; omega) rfl
              have HB2 := Lib.hid hB2
              have HSR := Lib.hid ((hw.below hB2).src)
              clear hs hw hB2
              go_wp2_with (at_builtin; refine wpList_append_src _ rfl (.tmp 41) (.tmp 42) 30 rfl wr.heap.size 21 i0 _ 1 4 Tryd.underlying30 hi0 hz00 hz01 hz02 rfl (by decide) (.slice (some ⟨wr.heap.size, 0, none⟩) 0 0) 0 [] rfl HMADE.out sa s.length sc (i32s s) rfl HSR.out (i32s_one s) (by unfold maxLen; omega) (by omega) HB2.out.size ?_)
              clear hcell
              intro u3 w3 hown3 hgrow3 _
              have hB3 : Below wr.heap.size wr w3 := HB2.out.grown hgrow3 HB2.out.size (fun b hb => (own_lt HMADE.out hb).1)
              have hown3 : w3.ownsRow wr.heap.size 21 1 u3 s.length (i32s s) := by simpa using hown3
              obtain ⟨ua, uc, rfl⟩ := own_val hown3
              obtain ⟨v4, hv4⟩ : ∃ V : World, w3.alloc (.cells #[.slice ua s.length uc] 30) = V := ⟨_, rfl⟩
              have hB4 : Below w3.heap.size w3 v4 := by rw [← hv4]; exact mem_alloc _ _
              have HX4 : Hid (v4.heap[w3.heap.size]? = some (.cells #[.slice ua s.length uc] 30)) := by show _ = _; rw [← hv4]; exact mem_new _ _
              have HB4 := Lib.hid (mem_then hB3 hB4)
              have HU4 := Lib.hid (own_below hown3 hB4)
              have HZ4 := Lib.hid (own_below HZR.out HB4.out)
              have HSZ4 : Hid (wp.heap.size ≤ v4.heap.size) := Nat.le_trans HBK.out.size HB4.out.size
              clear hown3 hgrow3 hB3 hB4 HMADE HSR hv2
              go_wp2_with (at_builtin; refine wpList_append_src _ rfl (.tmp 40) (.tmp 44) 27 rfl wp.heap.size 30 i1 _ 1 24 Tryd.underlying27 hi1 hz10 hz11 hz12 rfl (by decide) (.slice za k zc) k qs rfl HZ4.out (some ⟨w3.heap.size, 0, none⟩) 1 1 [.slice ua s.length uc] rfl (src_new HX4.out rfl) (by simp [Value.oneCell']) (by unfold maxLen; omega) (by omega) HSZ4.out ?_)
              intro r9 w9 hown hgrow _
              obtain ⟨ra9, rc9, rfl⟩ := own_val hown
              have HL9 : Hid (LOwn wp.heap.size w9 (.slice ra9 (k + 1) rc9) (qs ++ [.slice ua s.length uc]) (r.take (k + 1))) := by
                show LOwn _ _ _ _ _
                rw [HTKS.out]
                refine HQO.out.push HB4.out HU4.out HBK.out.size ?_ ?_
                · rw [HTKL.out]; exact hgrow
                · rw [HTKL.out]; exact hown
              have HB9 : Hid (Below wp.heap.size wp w9) := (mem_then HBK.out HB4.out).grown hgrow (mem_then HBK.out HB4.out).size (fun b hb => (own_lt HZ4.out hb).1)
              clear hown hgrow hv4
              go_wp2_with fail
              go_roundw
              case rel => exact ⟨k + 1, _, by omega, by go_num, HL9.out, HB9.out⟩
              case measure => simp [intOf]; omega
            · obtain rfl : k = r.length := by omega
              have HQ : Hid (LOwn wp.heap.size wr (.slice za r.length zc) qs r) := by
                have h := HQO.out
                rw [List.take_length] at h
                exact h
              have hy := mem_keep HBY.out.2.2 HBK.out
              have HY := Lib.hid hy
              have hyl : W2.heap.size < wr.heap.size := mem_lt hy
              obtain ⟨v4, hv4⟩ : ∃ V : World, wr.alloc (.cells #[.slice za r.length zc] 27) = V := ⟨_, rfl⟩
              have hB4 : Below wr.heap.size wr v4 := by rw [← hv4]; exact mem_alloc _ _
              have HX4 : Hid (v4.heap[wr.heap.size]? = some (.cells #[.slice za r.length zc] 27)) := by show _ = _; rw [← hv4]; exact mem_new _ _
              have HB4 := Lib.hid (mem_then HBK.out hB4)
              have HQ4 := Lib.hid (HQ.out.keep hB4)
              have HZ4 := Lib.hid (own_below HVR.out HB4.out)
              have HSZ4 : Hid (wo.heap.size ≤ v4.heap.size) := Nat.le_trans HSZ2.out HB4.out.size
              obtain ⟨c0, c1⟩ := mem_two hy
              clear hy HQO HZR HTKL hB4
              go_wp2_with (at_builtin; refine wpList_append_src _ rfl (.tmp 48) (.tmp 50) 26 rfl wo.heap.size 27 i2 _ 1 24 Tryd.underlying26 hi2 hz20 hz21 hz22 rfl (by decide) (.slice ya j yc) j us rfl HZ4.out (some ⟨wr.heap.size, 0, none⟩) 1 1 [.slice za r.length zc] rfl (src_new HX4.out rfl) (by simp [Value.oneCell']) (by unfold maxLen; omega) (by omega) HSZ4.out ?_)
              clear c0 c1
              intro r9 w9 hown hgrow _
              obtain ⟨ra9, rc9, rfl⟩ := own_val hown
              have keep9 : ∀ (k : Nat) arr t, wp.heap[k]? = some (.cells arr t) → t ≠ 27 → w9.heap[k]? = some (.cells arr t) := fun k arr t hk ht => grown_other HZ4.out hgrow _ _ _ (mem_keep hk HB4.out) ht
              have hX9 : w9.heap[w.heap.size]? = some (memObj M (some ⟨mb, mo, none⟩) mac ms msc) ∧ w9.heap[W1.heap.size]? = some zMem ∧ w9.heap[W2.heap.size]? = some (.cells #[.slice ya j yc, .slice va M.shared.length vc] 29) := ⟨keep9 _ _ _ HBY.out.1 (by decide), keep9 _ _ _ HBY.out.2.1 (by decide), keep9 _ _ _ HBY.out.2.2 (by decide)⟩
              have HX9 := Lib.hid hX9
              have hL9 : L3Own wo.heap.size w9 (.slice ra9 (j + 1) rc9) (us ++ [.slice za r.length zc]) (uss ++ [qs]) (M.arrays.take (j + 1)) := by
                rw [HTK.out]
                refine HOWN.out.push HB4.out HQ4.out HSZ2.out ?_ ?_
                · exact hgrow
                · rw [HTL.out]; exact hown
              have hS9 : LOwn W3.heap.size w9 (.slice va M.shared.length vc) vs M.shared := (HOS2.out.keep HB4.out).move (T := 27) (by decide) (by decide) (grown_other HZ4.out hgrow)
              have hB9 : Below w.heap.size w w9 := (mem_then HBR.out HB4.out).grown hgrow (mem_then HBR.out HB4.out).size (fun b hb => by have := (own_lt HZ4.out hb).1; have := HLT.out; have := HSZ.out; omega)
              have hSZ9 : wo.heap.size ≤ w9.heap.size := by have h1 := HSZ4.out; have h3 := hgrow.size; omega
              obtain ⟨F, hF⟩ : ∃ F : World, w9.setCell ⟨W2.heap.size, 0, none⟩ (.slice ra9 (j + 1) rc9) = F := ⟨_, rfl⟩
              have HXF : Hid (F.heap[w.heap.size]? = some (memObj M (some ⟨mb, mo, none⟩) mac ms msc) ∧ F.heap[W1.heap.size]? = some zMem ∧ F.heap[W2.heap.size]? = some (.cells #[.slice ra9 (j + 1) rc9, .slice va M.shared.length vc] 29)) := by
                have h1 := HLT.out
                show _ ∧ _
                rw [← hF]
                refine ⟨?_, ?_, ?_⟩
                · rw [Below.heap_setCell _ _ _ _ (by show w.heap.size ≠ W2.heap.size; omega)]; exact hX9.1
                · rw [Below.heap_setCell _ _ _ _ (by show W1.heap.size ≠ W2.heap.size; omega)]; exact hX9.2.1
                · rw [mem_set hX9.2.2]; rfl
              have HLF : Hid (L3Own wo.heap.size F (.slice ra9 (j + 1) rc9) (us ++ [.slice za r.length zc]) (uss ++ [qs]) (M.arrays.take (j + 1))) := by show L3Own _ _ _ _ _ _; rw [← hF]; exact hL9.move (T := 29) (by decide) (by decide) (by decide) (set_other hX9.2.2)
              have HSF : Hid (LOwn W3.heap.size F (.slice va M.shared.length vc) vs M.shared) := by show LOwn _ _ _ _ _; rw [← hF]; exact hS9.move (T := 29) (by decide) (by decide) (set_other hX9.2.2)
              have HBF : Hid (Below w.heap.size w F) := by show Below _ _ _; rw [← hF]; exact hB9.setCell (p := ⟨W2.heap.size, 0, none⟩) (by have := HLT.out; show w.heap.size ≤ W2.heap.size; omega) _
              have HZF : Hid (wo.heap.size ≤ F.heap.size) := by show _ ≤ _; rw [← hF]; simp; omega
              obtain ⟨c0, c1⟩ := mem_two hX9.2.2
              have f0 := mem_free hX9.2.2 0
              clear hown hgrow keep9 hX9 hL9 hS9 hB9 hSZ9
              go_wp2_with fail
              go_roundw
              case rel => exact ⟨j + 1, .slice ra9 (j + 1) rc9, _, _, by omega, by go_num, HXF.out, HLF.out, HSF.out, HBF.out, HZF.out⟩
              case measure => simp [intOf]; omega
        · obtain rfl : j = M.arrays.length := by omega
          have HO3 : Hid (L3Own wo.heap.size wr (.slice ya M.arrays.length yc) us uss M.arrays) := by
            have h := HOWN.out
            rw [List.take_length] at h
            exact h
          obtain ⟨c0, c1⟩ := mem_two HBY.out.2.2
          obtain ⟨d0, d1⟩ := mem_two HBY.out.2.1
          have f0 := mem_free HBY.out.2.1 0
          have f1 := mem_free HBY.out.2.1 1
          obtain ⟨F, hF⟩ : ∃ F : World, (wr.setCell ⟨W1.heap.size, 0, none⟩ (.slice ya M.arrays.length yc)).setCell ⟨W1.heap.size, 1, none⟩ (.slice va M.shared.length vc) = F := ⟨_, rfl⟩
          have hF0 : (wr.setCell ⟨W1.heap.size, 0, none⟩ (.slice ya M.arrays.length yc)).heap[W1.heap.size]? = some (.cells #[.slice ya M.arrays.length yc, .slice none 0 0] 29) := by rw [mem_set HBY.out.2.1]; rfl
          have hF1 : F.heap[W1.heap.size]? = some (.cells #[.slice ya M.arrays.length yc, .slice va M.shared.length vc] 29) := by rw [← hF, mem_set hF0]; rfl
          have HLF : Hid (L3Own wo.heap.size F (.slice ya M.arrays.length yc) us uss M.arrays) := by show L3Own _ _ _ _ _ _; rw [← hF]; exact (HO3.out.move (T := 29) (by decide) (by decide) (by decide) (set_other HBY.out.2.1)).move (T := 29) (by decide) (by decide) (by decide) (set_other hF0)
          have HSF : Hid (LOwn w.heap.size F (.slice va M.shared.length vc) vs M.shared) := by show LOwn _ _ _ _ _; rw [← hF]; exact ((HOS2.out.move (T := 29) (by decide) (by decide) (set_other HBY.out.2.1)).move (T := 29) (by decide) (by decide) (set_other hF0)).down HB3.out.size
          have HBF : Hid (Below w.heap.size w F) := by
            have h1 := HLT.out
            show Below _ _ _
            rw [← hF]
            exact (HBR.out.setCell (p := ⟨W1.heap.size, 0, none⟩) (by show w.heap.size ≤ W1.heap.size; omega) _).setCell (p := ⟨W1.heap.size, 1, none⟩) (by show w.heap.size ≤ W1.heap.size; omega) _
          obtain ⟨g0, g1⟩ := mem_two hF1
          clear hF0 hF1
          go_wp2_with fail
          refine bodyPost_ret (v := .agg #[.slice ya M.arrays.length yc, .slice va M.shared.length vc]) (by simp [results, Tryd.results13, go_sem, g0, g1]) rfl ?_
          exact ⟨ya, yc, va, vc, us, uss, vs, wo.heap.size, rfl, ⟨HLF.out, HSF.out, HB.out.size, HVL.out.1, HVL.out.2⟩, HBF.out⟩
end Go.Proofs.YtgochgcchkdlmaaDoor

/-
  The arrays of other tasks changed (package ontimelaw16): plain lists; stores into rows of rows of rows; what a job makes of them.
-/
namespace Go.Proofs.YtgochgcchkdlmaaDoor
set_option linter.unusedVariables false
set_option linter.unusedSimpArgs false
open Go.RowKit Go.Maps
set_option maxRecDepth 100000
set_option maxHeartbeats 8000000

/-! ### stores into rows of rows -/
theorem i32s_set (l : List Int) (q : Nat) (x : Int) : (i32s l).set q (.int .i32 x) = i32s (l.set q x) := by unfold i32s; rw [List.map_set]
/-- what else lies in other blocks stays -/
theorem own_far {N : Nat} {w : World} {e : TypeId} {size n : Nat} {v : Value} {xs : List Value} {g q : Nat} {x : Value} (h : w.ownsRow N e size v n xs) (hb : v.ownBlock ≠ some g) : (w.setCell ⟨g, q, none⟩ x).ownsRow N e size v n xs :=
  own_keep h (fun k hk _ => Below.heap_setCell _ _ _ _ (by rintro rfl; exact hb hk))
theorem LOwn.put {N : Nat} {w : World} {v : Value} {vs : List Value} {t : List (List Int)} {k q g n c : Nat} {l : List Int} {x : Int} (h : LOwn N w v vs t) (hl : t[k]? = some l) (hz : vs[k]? = some (.slice (some ⟨g, 0, none⟩) n c)) (hq : q < l.length) :
    LOwn N (w.setCell ⟨g, q, none⟩ (.int .i32 x)) v vs (t.set k (l.set q x)) := by
  obtain ⟨z, hz1, hz2⟩ := h.ri k l hl
  rw [hz] at hz1
  cases hz1
  obtain ⟨cur, hg⟩ := own_new hz2 rfl
  have hkl := (List.getElem?_eq_some_iff.1 hl).1
  refine ⟨by rw [List.length_set]; exact h.len, ?_, fun i r hr => ?_, h.apart⟩
  · rw [List.length_set]
    exact own_far h.ro (own_other h.ro hg (by decide))
  · by_cases e : k = i
    · subst e
      rw [List.getElem?_set, if_pos rfl, if_pos hkl] at hr
      cases hr
      obtain ⟨ua, uc, e1⟩ := own_val hz2
      cases e1
      refine ⟨_, hz, ?_⟩
      rw [List.length_set, ← i32s_set]
      exact ownsRow_set hz2 (by omega)
    · rw [List.getElem?_set, if_neg e] at hr
      obtain ⟨u, h1, h2⟩ := h.ri i r hr
      exact ⟨u, h1, own_far h2 (fun hb => e (h.apart k i _ u g hz h1 rfl hb))⟩
theorem L3Own.put {N : Nat} {w : World} {v : Value} {vs : List Value} {us : List (List Value)} {A : List (List (List Int))} {i k q g n c : Nat} {t : List (List Int)} {l : List Int} {zs : List Value} {x : Int} (h : L3Own N w v vs us A) (ht : A[i]? = some t) (hl : t[k]? = some l) (hu : us[i]? = some zs) (hz : zs[k]? = some (.slice (some ⟨g, 0, none⟩) n c)) (hq : q < l.length) :
    L3Own N (w.setCell ⟨g, q, none⟩ (.int .i32 x)) v vs us (A.set i (t.set k (l.set q x))) := by
  have hil := (List.getElem?_eq_some_iff.1 ht).1
  obtain ⟨u0, q0, p1, p2, p3⟩ := h.ri i t ht
  rw [hu] at p2
  cases p2
  obtain ⟨z, hz1, hz2⟩ := p3.ri k l hl
  rw [hz] at hz1
  cases hz1
  obtain ⟨cur, hg⟩ := own_new hz2 rfl
  refine ⟨by rw [List.length_set]; exact h.len, by rw [List.length_set]; exact h.lenu, ?_, fun j r hr => ?_, h.apart⟩
  · rw [List.length_set]
    exact own_far h.ro (own_other h.ro hg (by decide))
  · by_cases e : i = j
    · subst e
      rw [List.getElem?_set, if_pos rfl, if_pos hil] at hr
      cases hr
      exact ⟨u0, zs, p1, hu, p3.put hl hz hq⟩
    · rw [List.getElem?_set, if_neg e] at hr
      obtain ⟨u, z2, h1, h2, h3⟩ := h.ri j r hr
      exact ⟨u, z2, h1, h2, h3.stay (fun b hb => Below.heap_setCell _ _ _ _ (by rintro rfl; exact own_other h3.ro hg (by decide) hb)) (fun k' z' b hk' hb => Below.heap_setCell _ _ _ _ (by rintro rfl; exact e (h.apart i j zs z2 k k' _ z' _ hu h2 hz hk' rfl hb)))⟩
theorem MOwn.put {N N1 : Nat} {w : World} {M : Mem} {v sv : Value} {vs svs : List Value} {us : List (List Value)} {i k q g n c : Nat} {t : List (List Int)} {l : List Int} {zs : List Value} {x : Int} (h : MOwn N N1 w M v vs us sv svs) (ht : M.arrays[i]? = some t) (hl : t[k]? = some l) (hu : us[i]? = some zs) (hz : zs[k]? = some (.slice (some ⟨g, 0, none⟩) n c)) (hq : q < l.length) :
    MOwn N N1 (w.setCell ⟨g, q, none⟩ (.int .i32 x)) ⟨M.arrays.set i (t.set k (l.set q x)), M.shared⟩ v vs us sv svs := by
  have hg : N1 ≤ g := (h.arrs.inner hu hz rfl).1
  exact ⟨h.arrs.put ht hl hu hz hq, h.shared.stay (fun b hb => Below.heap_setCell _ _ _ _ (fun e => by have h1 := h.lows b hb; have e : b = g := e; omega)) (fun k' z' b hk' hb => Below.heap_setCell _ _ _ _ (fun e => by have h1 := h.low _ _ _ hk' hb; have e : b = g := e; omega)), h.le, h.lows, h.low⟩
theorem MOwn.keep {N N1 : Nat} {w w' : World} {M : Mem} {v sv : Value} {vs svs : List Value} {us : List (List Value)} (h : MOwn N N1 w M v vs us sv svs) (hB : Below w.heap.size w w') : MOwn N N1 w' M v vs us sv svs :=
  ⟨h.arrs.keep hB, h.shared.keep hB, h.le, h.lows, h.low⟩
theorem MOwn.at_ {N N1 : Nat} {w : World} {M : Mem} {aa sa : Option Addr} {ac sc an sn : Nat} {vs svs : List Value} {us : List (List Value)} (h : MOwn N N1 w M (.slice aa an ac) vs us (.slice sa sn sc) svs) (hA : M.arrays.length ≤ 1000 ∧ ∀ t ∈ M.arrays, t.length ≤ 1000) (hS : M.shared.length ≤ 1000) (hWA : ∀ t ∈ M.arrays, ∀ r ∈ t, ∀ x ∈ r, Wd.W x) (hWS : ∀ r ∈ M.shared, ∀ x ∈ r, Wd.W x) : MemAt w M aa sa := by
  have e1 : an = M.arrays.length := by
    obtain ⟨a', c', e⟩ := own_val h.arrs.ro
    injection e with _ e _
  have e2 : sn = M.shared.length := by
    obtain ⟨a', c', e⟩ := own_val h.shared.ro
    injection e with _ e _
  subst e1 e2
  refine ⟨cont3_end h.arrs.ro rfl (by omega) (fun k r hr => ?_), cont_own h.shared rfl (by omega) hWS⟩
  obtain ⟨u, q, h1, _, h3⟩ := h.arrs.ri k r hr
  obtain ⟨ua, uc, rfl⟩ := own_val h3.ro
  have hm := List.mem_of_getElem? hr
  exact ⟨ua, uc, h1, fun e => own_none (by rw [e] at h3; exact h3.ro), cont_own h3 rfl (by have := hA.2 r hm; omega) (hWA r hm)⟩
end Go.Proofs.YtgochgcchkdlmaaDoor
