/-
  Mg38: several texts in one (LowFn1, RegionZ).
-/
import Derived.Test.YtkpdngfkdmllkaaDoorLowAt
import Derived.Deep.RegionHeld
import Derived.Deep.RegionHeld3
import Derived.Deep.DeepCutAuto
import Derived.Laws.OwnMore
import Derived.StillTail
/-
  Contracts: the builder's small functions (package lower): register, jump, branch.
-/
namespace Go.Proofs.YtkpdngfkdmllkaaDoor
set_option linter.unusedVariables false
set_option linter.unusedSimpArgs false
open Go.RowKit Go.Maps
set_option maxRecDepth 100000
set_option maxHeartbeats 4000000

section
variable {B N : Nat} {m : BM} {E : LEnv} {w : World} {G : List Nat} {bs : List Blk} {R d : Nat} {V : VM}
theorem register_any (h : BdAt B N m E w G bs R d V) (hN : N + 1 ≤ 1000000) :
    Calls Tryd.prog 38 #[ptrV m.bb] w fun e w' => e = .returned (.int .i64 (R : Int)) ∧ BdAt B (N + 1) m E w' G bs (R + 1) d V ∧ FrL B m w w' := by
  have H := Lib.hid h
  have hR := h.small.1
  obtain ⟨_, _, _, x3, _, _, hz⟩ := h.cells
  obtain ⟨W, hW⟩ : ∃ W : World, w.setCell ⟨m.bb, 3, none⟩ (.int .i64 ((R : Int) + 1)) = W := ⟨_, rfl⟩
  have HT : Hid (BdAt B (N + 1) m E W G bs (R + 1) d V ∧ FrL B m w W) := by
    refine H.out.turn (fun rv hrv => ?_) (fun k hk => ?_) ?_ (by omega) hN ⟨by omega, by omega⟩ (by have := H.out.small.2.1; omega)
    · rw [← hW, mem_set hrv]; rfl
    · rw [← hW]; exact Below.heap_setCell _ _ _ _ hk
    · rw [← hW]; exact (Below.refl _ _).setCell (p := ⟨m.bb, 3, none⟩) (Nat.le_refl _) _
  have y3 : W.cell? ⟨m.bb, 3, none⟩ = some (.int .i64 ((R : Int) + 1)) := HT.out.1.cells.2.2.2.1
  clear h
  go_enter Tryd.func38, Tryd.ntmps38
  go_wp2_with fail
  go_ret
  exact ⟨by simp, HT.out⟩
theorem jump_any {i g : Nat} {q : Blk} {t : Nat} (h : BdAt B N m E w G bs R d V) (hg : G[i]? = some g) (hq : bs[i]? = some q) (ht : t ≤ 1000000) :
    Calls Tryd.prog 78 #[ptrV g, .int .i64 (t : Int)] w fun e w' => e = .returned (.tuple #[]) ∧ BdAt B N m E w' G (bs.set i { q with kind := 1, «to» := t }) R d V ∧ FrL B m w w' := by
  have H := Lib.hid h
  obtain ⟨a, c, h0, hrow, hgB, hgl, hwf, hiw, hlen⟩ := h.at_ hg hq
  have H0 := Lib.hid h0
  have HR := Lib.hid hrow
  have hz := mem_free h0
  obtain ⟨W1, hW1⟩ : ∃ W : World, w.setCell ⟨g, 1, none⟩ (.int .u8 1) = W := ⟨_, rfl⟩
  obtain ⟨W2, hW2⟩ : ∃ W : World, W1.setCell ⟨g, 3, none⟩ (.int .i64 (t : Int)) = W := ⟨_, rfl⟩
  have e1 : W1.heap[g]? = some (.cells #[.slice a q.code.length c, .int .u8 1, .int .i64 q.x, .int .i64 q.to, .int .i64 q.els] 46) := by rw [← hW1, mem_set h0]; rfl
  have e2 : W2.heap[g]? = some (BP.obj ⟨g, ⟨{ q with kind := 1, «to» := t }, a, c⟩⟩) := by rw [← hW2, mem_set e1]; rfl
  have far : ∀ k, k ≠ g → W2.heap[k]? = w.heap[k]? := fun k hk => by rw [← hW2, ← hW1, Below.heap_setCell _ _ _ _ hk, Below.heap_setCell _ _ _ _ hk]
  have HT : Hid (BdAt B N m E W2 G (bs.set i { q with kind := 1, «to» := t }) R d V ∧ FrL B m w W2) := by
    refine H.out.put hg hq h0 e2 ?_ (.inl rfl) (fun k _ hk _ => far k hk) ?_ ⟨⟨by show (0 : Int) ≤ 1; decide, by show (1 : Int) ≤ 255; decide, hwf.x, by show irI64 (t : Int); unfold irI64; omega, hwf.els⟩, hiw⟩ (Nat.le_refl _) H.out.cap hlen
    · exact own_keep hrow (fun k hk hl => far k (by rintro rfl; exact own_other hrow h0 (by decide) hk))
    · rw [← hW2, ← hW1]; exact ((Below.refl _ _).setCell (p := ⟨g, 1, none⟩) hgB _).setCell (p := ⟨g, 3, none⟩) hgB _
  have hz1 := mem_free e1
  have c1 : w.cell? ⟨g, 1, none⟩ = some (.int .u8 q.kind) := mem_cell h0 1
  have c3 : W1.cell? ⟨g, 3, none⟩ = some (.int .i64 q.to) := mem_cell e1 3
  clear h h0 hrow hg hq e1 e2 far hwf hiw
  go_enter Tryd.func78, Tryd.ntmps78
  go_wp2_with fail
  go_end0
  exact ⟨rfl, HT.out⟩
theorem branch_any {i g : Nat} {q : Blk} {x : Int} (h : BdAt B N m E w G bs R d V) (hg : G[i]? = some g) (hl : G.length = i + 1) (hq : bs[i]? = some q) (hx : irI64 x) :
    Calls Tryd.prog 77 #[ptrV m.bb, .int .i64 x] w fun e w' => e = .returned (ptrV g) ∧ BdAt B N m E w' G (bs.set i { q with kind := 2, x := x }) R d V ∧ FrL B m w w' := by
  have H := Lib.hid h
  obtain ⟨a, c, h0, hrow, hgB, hgl, hwf, hiw, hlen⟩ := h.at_ hg hq
  have hcur : curV G = ptrV g := by
    unfold curV
    rw [List.getLast?_eq_getElem?, hl]
    show (match G[i + 1 - 1]? with | none => _ | some g => _) = _
    rw [Nat.add_sub_cancel, hg]
  have hz := mem_free h0
  obtain ⟨_, _, _, _, _, x6, hzb⟩ := h.cells
  rw [hcur] at x6
  have hne : m.bb ≠ g := fun e => by
    obtain ⟨rv, hb, _⟩ := h.box
    rw [e, h0] at hb
    injection hb with hb
    injection hb with _ hb
    exact absurd hb (by decide)
  obtain ⟨W1, hW1⟩ : ∃ W : World, w.setCell ⟨g, 1, none⟩ (.int .u8 2) = W := ⟨_, rfl⟩
  obtain ⟨W2, hW2⟩ : ∃ W : World, W1.setCell ⟨g, 2, none⟩ (.int .i64 x) = W := ⟨_, rfl⟩
  have e1 : W1.heap[g]? = some (.cells #[.slice a q.code.length c, .int .u8 2, .int .i64 q.x, .int .i64 q.to, .int .i64 q.els] 46) := by rw [← hW1, mem_set h0]; rfl
  have e2 : W2.heap[g]? = some (BP.obj ⟨g, ⟨{ q with kind := 2, x := x }, a, c⟩⟩) := by rw [← hW2, mem_set e1]; rfl
  have far1 : ∀ k, k ≠ g → W1.heap[k]? = w.heap[k]? := fun k hk => by rw [← hW1, Below.heap_setCell _ _ _ _ hk]
  have far : ∀ k, k ≠ g → W2.heap[k]? = w.heap[k]? := fun k hk => by rw [← hW2, Below.heap_setCell _ _ _ _ hk]; exact far1 k hk
  have y6 : W1.cell? ⟨m.bb, 6, none⟩ = some (ptrV g) := (World.cell?_of_block (a := ⟨m.bb, 6, none⟩) (far1 _ hne)).trans x6
  have z6 : W2.cell? ⟨m.bb, 6, none⟩ = some (ptrV g) := (World.cell?_of_block (a := ⟨m.bb, 6, none⟩) (far _ hne)).trans x6
  have HT : Hid (BdAt B N m E W2 G (bs.set i { q with kind := 2, x := x }) R d V ∧ FrL B m w W2) := by
    refine H.out.put hg hq h0 e2 ?_ (.inl rfl) (fun k _ hk _ => far k hk) ?_ ⟨⟨by show (0 : Int) ≤ 2; decide, by show (2 : Int) ≤ 255; decide, hx, hwf.to, hwf.els⟩, hiw⟩ (Nat.le_refl _) H.out.cap hlen
    · exact own_keep hrow (fun k hk hl => far k (by rintro rfl; exact own_other hrow h0 (by decide) hk))
    · rw [← hW2, ← hW1]; exact ((Below.refl _ _).setCell (p := ⟨g, 1, none⟩) hgB _).setCell (p := ⟨g, 2, none⟩) hgB _
  have hz1 := mem_free e1
  have c1 : w.cell? ⟨g, 1, none⟩ = some (.int .u8 q.kind) := mem_cell h0 1
  have c3 : W1.cell? ⟨g, 2, none⟩ = some (.int .i64 q.x) := mem_cell e1 2
  clear h h0 hrow hg hl hq e1 e2 far far1 hwf hiw hcur hzb hne
  go_enter Tryd.func77, Tryd.ntmps77
  go_wp2_with fail
  go_ret
  exact ⟨rfl, HT.out⟩
end
end Go.Proofs.YtkpdngfkdmllkaaDoor

/-
  Regions whose last operations write: an operation that these wait for may be taken first, although they turn what it reads. No program is named here.
-/
namespace Go.Proofs.YtkpdngfkdmllkaaDoor
set_option linter.unusedVariables false
set_option linter.unusedSimpArgs false
open Go

section
variable {P : Program} {ops : Array Oper} {Q : Exit → Act → World → Prop} {md : Region.Mode} {S : World → Prop} {z : Nat}
/-- whatever order is picked, and S holds behind every operation below z -/
def wpAnyZ (P : Program) (md : Region.Mode) (ops : Array Oper) (Q : Exit → Act → World → Prop) (S : World → Prop) (z : Nat) : Nat → Array Bool → Act → World → Prop
  | 0, listed, a, w => Region.ready md ops listed = [] ∧ Q .normal a w
  | fuel + 1, listed, a, w =>
    (Region.ready md ops listed = [] → Q .normal a w) ∧
    ∀ i ∈ Region.ready md ops listed, wpOp P ops Q i (fun a' w' => (i < z → S w') ∧ wpAnyZ P md ops Q S z fuel (listed.setIfInBounds i true) a' w') a w
theorem wpAny_of_Z : ∀ (fuel : Nat) (listed : Array Bool) (a : Act) (w : World), wpAnyZ P md ops Q S z fuel listed a w → wpAny P md ops Q fuel listed a w
  | 0, _, _, _, h => h
  | fuel + 1, _, _, _, h => ⟨h.1, fun i hi => wpOp_mono (fun a' w' h' => wpAny_of_Z fuel _ a' w' h'.2) (h.2 i hi)⟩
/-- all operations from z on wait for operation i -/
def tailWaits (md : Region.Mode) (ops : Array Oper) (z i : Nat) : Bool := (List.range ops.size).all fun j => decide (j < z) || Region.waitsFor md ops j i
theorem wpAnyZ_first {i : Nat} {oi : Oper} {v : Value} (hi : ops[i]? = some oi) (hsel : ∀ (j : Nat) (o : Oper) cs b, ops[j]? = some o → o.op ≠ .select cs b) (hz : tailWaits md ops z i = true)
    (hQ : ∀ c a w, Q (.panic c) (a.put oi.dst v) w → Q (.panic c) a w) :
    ∀ (fuel : Nat) (listed : Array Bool) (a : Act) (w : World),
      (∀ j oj, ops[j]? = some oj → j ≠ i → listed.getD j true = false → (∀ e ∈ oj.after, Region.binds md e = true → e.on ≠ i) → oi.apart ops oj = true) →
      i ∈ Region.ready md ops listed → YieldsIf P ops S oi v a → S w →
      wpAnyZ P md ops Q S z fuel (listed.setIfInBounds i true) (a.put oi.dst v) w → wpAnyZ P md ops Q S z (fuel + 1) listed a w := by
  intro fuel
  induction fuel with
  | zero =>
    intro listed a w _ hr hy hS H
    refine ⟨fun h => (by rw [h] at hr; cases hr), fun j hj => ?_⟩
    by_cases hji : j = i
    · subst hji; exact hy.wpOp hi hS ⟨fun _ => hS, H⟩
    · have := ready_mono hj hji
      rw [H.1] at this
      cases this
  | succ fuel ih =>
    intro listed a w hfree hr hy hS H
    refine ⟨fun h => (by rw [h] at hr; cases hr), fun j hj => ?_⟩
    by_cases hji : j = i
    · subst hji; exact hy.wpOp hi hS ⟨fun _ => hS, H⟩
    · have h1 := H.2 j (ready_mono hj hji)
      obtain ⟨hjun, oj, hoj, hall⟩ := mem_ready.1 hj
      have hnot : ∀ e ∈ oj.after, Region.binds md e = true → e.on ≠ i := fun e he hb heq => by
        have h1 := hall e he hb
        have h0 := (mem_ready.1 hr).1
        rw [heq] at h1
        rcases Nat.lt_or_ge i listed.size with h' | h'
        · simp [h'] at h0 h1; rw [h0] at h1; cases h1
        · simp [Array.getElem?_eq_none h'] at h1
      have hjz : j < z := by
        unfold tailWaits at hz
        have hjs : j < ops.size := (Array.getElem?_eq_some_iff.1 hoj).1
        have h4 := List.all_eq_true.1 hz j (List.mem_range.2 hjs)
        rw [Bool.or_eq_true, decide_eq_true_eq] at h4
        rcases h4 with h4 | h4
        · exact h4
        · obtain ⟨oj', hoj', e, he, hb, hon⟩ := Region.waitsFor_spec h4
          rw [hoj] at hoj'
          cases hoj'
          exact absurd hon (hnot e he hb)
      have h2 := wpOp_putIf hoj (hfree j oj hoj hji hjun hnot) (fun cs b => hsel i oi cs b hi) (fun cs b => hsel j oj cs b hoj) hQ hy h1
      have hfree' : ∀ k ok, ops[k]? = some ok → k ≠ i → (listed.setIfInBounds j true).getD k true = false →
          (∀ e ∈ ok.after, Region.binds md e = true → e.on ≠ i) → oi.apart ops ok = true := fun k ok hk hki hun hno => by
        refine hfree k ok hk hki ?_ hno
        by_cases hjk : j = k
        · subst hjk; exact hjun
        · rw [getD_set_ne true hjk] at hun; exact hun
      refine wpOp_mono (fun a' w' h3 => ⟨fun _ => h3.2.1 hjz, ih (listed.setIfInBounds j true) a' w' hfree' (ready_mono hr (Ne.symm hji)) h3.1 (h3.2.1 hjz) ?_⟩) h2
      rw [Array.setIfInBounds_comm _ _ hji]
      exact h3.2.2
theorem wpAnyZ_take {i : Nat} {oi : Oper} {v : Value} {fuel : Nat} {listed : Array Bool} {a : Act} {w : World} (hi : ops[i]? = some oi)
    (hs : Region.noSelect ops = true) (hf : Region.free md ops listed i = true) (hr : (Region.ready md ops listed).contains i = true) (hz : tailWaits md ops z i = true)
    (hQ : ∀ c a w, Q (.panic c) (a.put oi.dst v) w → Q (.panic c) a w) (hy : YieldsIf P ops S oi v a) (hS : S w)
    (h : wpAnyZ P md ops Q S z fuel (listed.setIfInBounds i true) (a.put oi.dst v) w) : wpAnyZ P md ops Q S z (fuel + 1) listed a w :=
  wpAnyZ_first hi (Region.noSelect_spec hs) hz hQ fuel listed a w (Region.free_spec hi hf) (by simpa using hr) hy hS h
/-- the same, its side conditions by the kernel -/
theorem zT {fuel : Nat} {listed : Array Bool} {a : Act} {w : World} (i : Nat) (v : Value) {oi : Oper} (hi : ops[i]? = some oi) (hs : Region.noSelect ops = true := by kernel_rfl) (hf : Region.free md ops listed i = true := by kernel_rfl)
    (hr : (Region.ready md ops listed).contains i = true := by kernel_rfl) (hz : tailWaits md ops z i = true := by kernel_rfl) (hQ : ∀ c a w, Q (.panic c) (a.put oi.dst v) w → Q (.panic c) a w := by exact fun _ _ _ h => h) (hw : Region.wanted oi (yielded ops a.tmps) = true := by rfl) (hS : S w := by assumption)
    (hy : ∀ w, S w → (execOp a.eval oi).run P w = .ok (.value v) w) (h : wpAnyZ P md ops Q S z fuel (listed.setIfInBounds i true) (a.put oi.dst v) w) : wpAnyZ P md ops Q S z (fuel + 1) listed a w :=
  wpAnyZ_take hi hs hf hr hz hQ (Or.inl ⟨hw, hy⟩) hS h
theorem wpAnyZ_all {rs : List Nat} {fuel : Nat} {listed : Array Bool} {a : Act} {w : World} (hr : Region.ready md ops listed = rs) (hne : rs ≠ [])
    (h : ∀ i ∈ rs, wpOp P ops Q i (fun a' w' => (i < z → S w') ∧ wpAnyZ P md ops Q S z fuel (listed.setIfInBounds i true) a' w') a w) : wpAnyZ P md ops Q S z (fuel + 1) listed a w :=
  ⟨fun h0 => absurd (hr ▸ h0) hne, hr ▸ h⟩
theorem wpAnyZ_done {listed : Array Bool} {a : Act} {w : World} (hr : Region.ready md ops listed = []) (h : Q .normal a w) :
    ∀ fuel, wpAnyZ P md ops Q S z fuel listed a w
  | 0 => ⟨hr, h⟩
  | _ + 1 => ⟨fun _ => h, by rw [hr]; simp⟩
def AllReadyZ (P : Program) (md : Region.Mode) (ops : Array Oper) (Q : Exit → Act → World → Prop) (S : World → Prop) (z fuel : Nat) (listed : Array Bool) (a : Act) (w : World) (rs : List Nat) : Prop :=
  ∀ i ∈ rs, wpOp P ops Q i (fun a' w' => (i < z → S w') ∧ wpAnyZ P md ops Q S z fuel (listed.setIfInBounds i true) a' w') a w
theorem AllReadyZ.nil {fuel : Nat} {listed : Array Bool} {a : Act} {w : World} : AllReadyZ P md ops Q S z fuel listed a w [] := fun _ h => by cases h
theorem AllReadyZ.cons {fuel : Nat} {listed : Array Bool} {a : Act} {w : World} {i : Nat} {o : Oper} {rs : List Nat} (ho : ops[i]? = some o)
    (h : ∀ K' : Act → World → Prop, Shut (∀ a w, S w → (S w → wpAnyZ P md ops Q S z fuel (listed.setIfInBounds i true) a w) → K' a w) → if Region.wanted o (yielded ops a.tmps) = true then Oper.wp P o a w K' Q else K' (a.put o.dst undef) w)
    (hs : AllReadyZ P md ops Q S z fuel listed a w rs) : AllReadyZ P md ops Q S z fuel listed a w (i :: rs) := fun j hj => by
  rcases List.mem_cons.1 hj with rfl | hj
  · exact wpOp_step ho (fun K' hK => h K' (fun a w hS hW => hK a w ⟨fun _ => hS, hW hS⟩))
  · exact hs j hj
/-- one of the last: S is not asked behind it -/
theorem AllReadyZ.last {fuel : Nat} {listed : Array Bool} {a : Act} {w : World} {i : Nat} {o : Oper} {rs : List Nat} (ho : ops[i]? = some o) (hi : z ≤ i)
    (h : ∀ K' : Act → World → Prop, Shut (∀ a w, wpAnyZ P md ops Q S z fuel (listed.setIfInBounds i true) a w → K' a w) → if Region.wanted o (yielded ops a.tmps) = true then Oper.wp P o a w K' Q else K' (a.put o.dst undef) w)
    (hs : AllReadyZ P md ops Q S z fuel listed a w rs) : AllReadyZ P md ops Q S z fuel listed a w (i :: rs) := fun j hj => by
  rcases List.mem_cons.1 hj with rfl | hj
  · exact wpOp_step ho (fun K' hK => h K' (fun a w hW => hK a w ⟨fun hlt => absurd hlt (by omega), hW⟩))
  · exact hs j hj
theorem wpAnyZ_ready {rs : List Nat} {fuel : Nat} {listed : Array Bool} {a : Act} {w : World} (hr : Region.ready md ops listed = rs) (hne : rs ≠ [])
    (h : AllReadyZ P md ops Q S z fuel listed a w rs) : wpAnyZ P md ops Q S z (fuel + 1) listed a w := wpAnyZ_all hr hne h
theorem zR {fuel : Nat} {listed : Array Bool} {a : Act} {w : World} (i : Nat) {o : Oper} (ho : ops[i]? = some o)
    (h : ∀ K' : Act → World → Prop, Shut (∀ a w, S w → (S w → wpAnyZ P md ops Q S z fuel (listed.setIfInBounds i true) a w) → K' a w) → if Region.wanted o (yielded ops a.tmps) = true then Oper.wp P o a w K' Q else K' (a.put o.dst undef) w)
    (hr : Region.ready md ops listed = [i] := by kernel_rfl) : wpAnyZ P md ops Q S z (fuel + 1) listed a w := wpAnyZ_ready hr (by simp) (AllReadyZ.cons ho h AllReadyZ.nil)
theorem wp_region_z {id : Nat} (z : Nat) {a : Act} {w : World} (hm : P.follows .mixedOrders = true) (hS : S w.drew)
    (h : S w.drew → wpAnyZ P .any ops Q S z ops.size (Array.replicate ops.size false) a w.drew) : (Code.region id ops true).wp P Q a w :=
  wp_region_any hm (wpAny_of_Z _ _ _ _ (h hS))
end
end Go.Proofs.YtkpdngfkdmllkaaDoor
