/-
  The law CheckRenames: renaming a scalar variable to a name that does not occur changes no fault but that name.
-/
import Derived.Test.YtnegdmhmhdojbaaDoorChkRen
import Derived.Test.YtnegdmhmhdojbaaDoorChkFRow
import Derived.Test.YtnegdmhmhdojbaaDoorChkUndeclP
import Derived.Deep.Cut
import Derived.Deep.CutRange
import Derived.Deep.DeepCutAuto
import Derived.Deep.CutBlock
import Derived.Deep.RegionHeld3
import Derived.Test.YtnegdmhmhdojbaaDoorSmalls
import Derived.Test.YtnegdmhmhdojbaaDoorChkAwake
namespace Go.Proofs.YtnegdmhmhdojbaaDoor
set_option linter.unusedVariables false
set_option linter.unusedSimpArgs false
open Go.RowKit
set_option maxRecDepth 100000
set_option maxHeartbeats 80000000

theorem rstr_info : (Tryd.prog.info? 9).map (fun i => (i.zero, i.size, i.bytes)) = some (some (.string ⟨#[]⟩), 1, 16) := by kernel_rfl
theorem row_frz {w : World} {N : Nat} {e : TypeId} {size g m n c : Nat} {xs : List Value} (h : w.ownsRow N e size (.slice (some ⟨g, 0, none⟩) m c) n xs) (i : Nat) : w.frozen? ⟨g, i, none⟩ = false := by
  rcases h.2 with ⟨h1, _⟩ | ⟨g', cap, cur, hv, _, hc, _⟩
  · cases h1
  · cases hv
    simp [World.frozen?, hc]
theorem ren_take {l : List ByteArray} {v : ByteArray} {k : Nat} (h : k < l.length) : (l.take (k + 1)).map (renS v) ++ l.drop (k + 1) = ((l.take k).map (renS v) ++ l.drop k).set k (renS v (l.getD k ⟨#[]⟩)) := by
  rw [take_more (d := ⟨#[]⟩) h, List.map_append, List.append_assoc]
  have hk : ((l.take k).map (renS v)).length = k := by rw [List.length_map, List.length_take]; omega
  rw [List.set_append_right _ _ (by omega), hk, Nat.sub_self]
  congr 1
  have e : l.drop k = l.getD k ⟨#[]⟩ :: l.drop (k + 1) := by
    rw [List.drop_eq_getElem_cons h]
    simp [h]
  rw [e]
  rfl
theorem flat_lenr (L : List FltP) : (flat L).length = L.length := by unfold flat; simp
theorem want_none {f : Tree → Bool} {l : List (List Int × Tree)} (h : wantP f l = []) : ∀ x ∈ l, f x.2 = false := fun x hx => by
  unfold wantP at h
  have h1 := List.filter_eq_nil_iff.1 (List.map_eq_nil_iff.1 h) x hx
  simpa using h1
theorem RelL.at {ix : Int} {name : ByteArray} {L M : List FltP} {l m : List TFlt} (h : RelL (renRel ix name) l m) (h1 : flat L = l) (h2 : flat M = m) : M.length = L.length ∧ ∀ j (a : j < L.length) (b : j < M.length), renRel ix name ⟨L[j].task, L[j].flt⟩ ⟨M[j].task, M[j].flt⟩ := by
  subst h1 h2
  have hl := h.len
  rw [flat_lenr, flat_lenr] at hl
  refine ⟨hl.symm, fun j a b => h.get j _ _ ?_ ?_⟩
  · unfold flat; rw [List.getElem?_map, List.getElem?_eq_getElem a]; rfl
  · unfold flat; rw [List.getElem?_map, List.getElem?_eq_getElem b]; rfl
def RunEndB (lo n s : Nat) (P : Nat → World → Prop) (a a' : Act) (w' : World) : Prop := ∃ (l : List Value) (bb : Nat), l.length = n ∧ a' = { a with tmps := (putAll a.tmps lo l).setIfInBounds s (.pointer (some ⟨bb, 0, none⟩)) } ∧ P bb w'
theorem list10r {α : Type} {l : List α} (h : l.length = 10) : ∃ a0 a1 a2 a3 a4 a5 a6 a7 a8 a9, l = [a0, a1, a2, a3, a4, a5, a6, a7, a8, a9] := by
  match l, h with
  | [a0, a1, a2, a3, a4, a5, a6, a7, a8, a9], _ => exact ⟨a0, a1, a2, a3, a4, a5, a6, a7, a8, a9, rfl⟩
def RunEnd45 (lo n s1 s2 : Nat) (P : Value → Value → World → Prop) (a a' : Act) (w' : World) : Prop := ∃ (l : List Value) (v1 v2 : Value), l.length = n ∧ a' = { a with tmps := ((putAll a.tmps lo l).setIfInBounds s1 v1).setIfInBounds s2 v2 } ∧ P v1 v2 w'
theorem list7r {α : Type} {l : List α} (h : l.length = 7) : ∃ a0 a1 a2 a3 a4 a5 a6, l = [a0, a1, a2, a3, a4, a5, a6] := by
  match l, h with
  | [a0, a1, a2, a3, a4, a5, a6], _ => exact ⟨a0, a1, a2, a3, a4, a5, a6, rfl⟩
theorem checkRenames_any (p : Prg) (k wh : Int) (w : World) (sa ta : Option Addr) (sc tc : Nat) (hp : PrgAt w p sa ta) (hg : SignsIn w) (hk : 0 ≤ k ∧ k ≤ 255) (hwh : 0 ≤ wh ∧ wh ≤ 255) :
    Calls Tryd.prog 11 #[p.val sa sc ta tc, .int .u8 k, .int .u8 wh] w fun e w' => e = .returned (.bool true) ∧ Below w.heap.size w w' := by
  have hsl := hp.1.1
  have htl := hp.2.1
  obtain ⟨W, hW⟩ : ∃ W : World, w.alloc (prgObj p sa sc ta tc) = W := ⟨_, rfl⟩
  have HBW : Hid (Below w.heap.size w W) := by show Below _ _ _; rw [← hW]; exact mem_alloc _ _
  have HBX : Hid (W.heap[w.heap.size]? = some (prgObj p sa sc ta tc)) := by show _ = _; rw [← hW]; exact mem_new _ _
  have HP := Lib.hid (hp.below HBW.out)
  have HG := Lib.hid (hg.below HBW.out)
  have HK : Hid (∀ w', Below W.heap.size W w' → Below w.heap.size w w' ∧ w'.cell? ⟨w.heap.size, 0, none⟩ = some (.slice sa p.shared.length sc) ∧ w'.cell? ⟨w.heap.size, 1, none⟩ = some (.slice ta p.tasks.length tc) ∧ PrgAt w' p sa ta ∧ SignsIn w' ∧ w'.heap[w.heap.size]? = some (prgObj p sa sc ta tc)) := fun w' h => by
    have hb := mem_keep HBX.out h
    exact ⟨HBW.out.trans (h.mono HBW.out.size), mem_cell hb 0, mem_cell hb 1, HP.out.below h, HG.out.below h, hb⟩
  clear hp hg
  go_enter Tryd.func11, Tryd.ntmps11
  go_wp2_with fail
  clear hW
  refine (awake15_any W HG.out).mono ?_
  rintro e w1 ⟨rfl, hB1⟩
  have HB1 := Lib.hid hB1
  obtain ⟨_, y0, y1, hp1, hg1, _⟩ := HK.out w1 HB1.out
  have HP1 := Lib.hid hp1
  have HG1 := Lib.hid hg1
  clear hp1 hg1 hB1
  go_wp2_with fail
  clear y0 y1
  refine (small15_any p w1 sa ta sc tc HP1.out).mono ?_
  rintro e w2 ⟨rfl, hB2⟩
  have HB2 : Hid (Below W.heap.size W w2) := mem_then HB1.out hB2
  obtain ⟨_, y0, y1, hp2, hg2, _⟩ := HK.out w2 HB2.out
  have HP2 := Lib.hid hp2
  have HG2 := Lib.hid hg2
  have HAW : Hid (∀ w', Below W.heap.size W w' → Calls Tryd.prog 12 #[] w' fun e w'' => e = .returned (.bool true) ∧ Below w.heap.size w w'') := fun w' h => by
    refine (awake15_any w' (HG.out.below h)).mono ?_
    rintro e w9 ⟨he, hB9⟩
    exact ⟨he, (HK.out w9 (mem_then h hB9)).1⟩
  clear hB2 hp2 hg2
  cases hs : smallP p with
  | false =>
    rw [show num01 false = 0 from rfl]
    go_wp2_with fail
    refine (HAW.out w2 HB2.out).mono ?_
    rintro e w3 ⟨rfl, hB3⟩
    have HB3 := Lib.hid hB3
    clear hB3
    go_wp2_with fail
    go_ret
    exact ⟨rfl, HB3.out⟩
  | true =>
  rw [show num01 true = 1 from rfl]
  clear hs
  by_cases h0 : p.tasks.length = 0
  · have hz : ((p.tasks.length : Int) == 0) = true := by simp [h0]
    clear h0
    go_wp2_with fail
    refine (HAW.out w2 HB2.out).mono ?_
    rintro e w3 ⟨rfl, hB3⟩
    have HB3 := Lib.hid hB3
    clear hB3
    go_wp2_with fail
    go_ret
    exact ⟨rfl, HB3.out⟩
  have hz : ((p.tasks.length : Int) == 0) = false := by rw [beq_eq_false_iff_ne]; omega
  go_wp2_with fail
  clear y0 y1
  refine (valid_any p w2 sa ta sc tc HP2.out HG2.out).mono ?_
  rintro e w3 ⟨rfl, hB3⟩
  have HB3 : Hid (Below W.heap.size W w3) := mem_then HB2.out hB3
  clear hB3
  cases hv : prgOk p with
  | false =>
    go_wp2_with fail
    refine (HAW.out w3 HB3.out).mono ?_
    rintro e w4 ⟨rfl, hB4⟩
    have HB4 := Lib.hid hB4
    clear hB4
    go_wp2_with fail
    go_ret
    exact ⟨rfl, HB4.out⟩
  | true =>
  have HV := Lib.hid hv
  have HLE := Lib.hid (prgOk_le hv)
  clear hv
  obtain ⟨_, y0, y1, hp3, hg3, _⟩ := HK.out w3 HB3.out
  have hlen0 : (p.tasks.length : Int) ≠ 0 := by omega
  obtain ⟨i, hi⟩ : ∃ i : Nat, k % (p.tasks.length : Int) = (i : Int) := ⟨(k % (p.tasks.length : Int)).toNat, by have := Int.emod_nonneg k hlen0; omega⟩
  have hil : i < p.tasks.length := by have := Int.emod_lt_of_pos k (show (0 : Int) < (p.tasks.length : Int) by omega); omega
  have hi2 : (i : Int) < (p.tasks.length : Int) := by omega
  have hi0 : (0 : Int) ≤ (i : Int) := by omega
  obtain ⟨tb, tf, q, rfl, hc, hin⟩ := hp3.2.2 i hil
  obtain ⟨t, ht⟩ : ∃ t, p.tasks.getD i Tsk.none = t := ⟨_, rfl⟩
  rw [ht] at hc hin
  have HT := Lib.hid ht
  have HTOK : Hid (tskOk t = true) := by show _ = _; rw [← ht]; exact HLE.out.2.2 i hil
  obtain ⟨⟨g0, g1, g2, g3, g4, g5, g6, g7⟩, _⟩ := tsk_cells (Below.refl _ _) hc
  obtain ⟨D, hD⟩ : ∃ D : World, w3.alloc (tskObj t q) = D := ⟨_, rfl⟩
  have hBD : Below w3.heap.size w3 D := by rw [← hD]; exact mem_alloc _ _
  have HBD : Hid (Below W.heap.size W D) := mem_then HB3.out hBD
  have HTX : Hid (D.heap[w3.heap.size]? = some (tskObj t q)) := by show _ = _; rw [← hD]; exact mem_new _ _
  have HLT : Hid (w.heap.size < w3.heap.size) := Nat.lt_of_lt_of_le (mem_lt HBX.out) HB3.out.size
  have HINW : Hid (TskIn D t q) := hin.below hBD
  obtain ⟨ti, hti, hz0, hz1, hz2⟩ := info_parts rstr_info
  have HK2 : Hid (∀ w', Below D.heap.size D w' → Below w.heap.size w w' ∧ w'.cell? ⟨w.heap.size, 0, none⟩ = some (.slice sa p.shared.length sc) ∧ w'.cell? ⟨w.heap.size, 1, none⟩ = some (.slice (some ⟨tb, tf, none⟩) p.tasks.length tc) ∧ PrgAt w' p sa (some ⟨tb, tf, none⟩) ∧ SignsIn w' ∧ w'.heap[w3.heap.size]? = some (tskObj t q) ∧ TskIn w' t q ∧ w'.heap[w.heap.size]? = some (prgObj p sa sc (some ⟨tb, tf, none⟩) tc)) := fun w' h => by
    obtain ⟨h1, h2, h3, h4, h5, h6⟩ := HK.out w' (mem_then HBD.out h)
    exact ⟨h1, h2, h3, h4, h5, mem_keep HTX.out h, HINW.out.below h, h6⟩
  have x2 : D.cell? ⟨w3.heap.size, 2, none⟩ = some (.slice q.va t.vars.length q.vc) := mem_cell HTX.out 2
  have hvl := HINW.out.vars.1
  have hal := HINW.out.arrays.1
  have hvl12 : t.vars.length ≤ 12 := (tskOk_le HTOK.out).1
  clear ht hc hin hBD h0 hp3 hg3
  by_cases hv0 : t.vars.length = 0
  · have hzv : ((t.vars.length : Int) == 0) = true := by simp [hv0]
    clear hv0
    go_wp2_with fail
    clear hD
    go_ret
    exact ⟨rfl, (HK2.out D (Below.refl _ _)).1⟩
  have hzv : ((t.vars.length : Int) == 0) = false := by rw [beq_eq_false_iff_ne]; omega
  have hv3 : (0 : Int) < (t.vars.length : Int) := by omega
  have hy0 : (t.vars.length : Int) ≠ 0 := by omega
  obtain ⟨y, hy⟩ : ∃ y : Nat, wh % (t.vars.length : Int) = (y : Int) := ⟨(wh % (t.vars.length : Int)).toNat, by have := Int.emod_nonneg wh hy0; omega⟩
  have hyl : y < t.vars.length := by have := Int.emod_lt_of_pos wh hv3; omega
  have hyl2 : (y : Int) < (t.vars.length : Int) := by omega
  have hyl0 : (0 : Int) ≤ (y : Int) := by omega
  obtain ⟨qva, qvc, qaa, qac, qka, qkc⟩ := q
  obtain ⟨vb, vo, hva, hvc, _⟩ := HINW.out.vars.2 y hyl
  obtain ⟨v, hv⟩ : ∃ v, t.vars.getD y ⟨#[]⟩ = v := ⟨_, rfl⟩
  rw [hv] at hvc
  have HVM : Hid (v ∈ t.vars) := by show v ∈ t.vars; rw [← hv]; simp [hyl]
  obtain rfl : qva = some ⟨vb, vo, none⟩ := hva
  go_upto_region 7 with fail
  simp only [hi]
  clear g0 g1 g2 g3 g4 g5 g6 g7
  refine cut_runA (RunEndB 52 10 9 (fun nb w' => w'.heap[nb]? = some (.cells #[.string v] 9) ∧ Below D.heap.size D w' ∧ D.heap.size ≤ nb)) ?_ ?_
  · refine wp_region_held_drew (S := fun w' => Below D.heap.size D w') (by kernel_rfl) ((Below.refl _ _).drew) (fun hHeld => ?_)
    generalize hwd : World.drew _ = v0 at hHeld ⊢
    clear hwd hD
    refine wpAnyH_take (i := 0) (v := .pointer (some ⟨w3.heap.size, 2, none⟩)) rfl (by kernel_rfl) (by kernel_rfl) (by kernel_rfl) (fun _ _ _ h => h) (Or.inl ⟨by rfl, ?_⟩) (by assumption) ?_
    · intro w' hSw; go_simp
    (try simp only [Act.put, List.getElem_toArray, List.getElem_cons_zero, List.setIfInBounds_toArray, List.set_cons_zero, List.set_cons_succ])
    refine wpAnyH_take (i := 1) (v := .slice (some ⟨vb, vo, none⟩) t.vars.length qvc) rfl (by kernel_rfl) (by kernel_rfl) (by kernel_rfl) (fun _ _ _ h => h) (Or.inl ⟨by rfl, ?_⟩) (by assumption) ?_
    · intro w' hSw; obtain ⟨_, _, _, _, _, hx, _⟩ := HK2.out _ hSw; have z2 := mem_cell hx 2; simp only [Tsk.cells, List.getElem?_toArray, List.getElem?_cons_zero, List.getElem?_cons_succ] at z2; go_simp
    (try simp only [Act.put, List.getElem_toArray, List.getElem_cons_zero, List.getElem_cons_succ, List.setIfInBounds_toArray, List.set_cons_zero, List.set_cons_succ])
    refine wpAnyH_take (i := 2) (v := .int .u8 wh) rfl (by kernel_rfl) (by kernel_rfl) (by kernel_rfl) (fun _ _ _ h => h) (Or.inl ⟨by rfl, ?_⟩) (by assumption) ?_
    · intro w' hSw; go_simp
    (try simp only [Act.put, List.getElem_toArray, List.getElem_cons_zero, List.getElem_cons_succ, List.setIfInBounds_toArray, List.set_cons_zero, List.set_cons_succ])
    refine wpAnyH_take (i := 3) (v := .int .i64 wh) rfl (by kernel_rfl) (by kernel_rfl) (by kernel_rfl) (fun _ _ _ h => h) (Or.inl ⟨by rfl, ?_⟩) (by assumption) ?_
    · intro w' hSw; go_simp; (rw [IntKind.wrap_i64]; omega)
    (try simp only [Act.put, List.getElem_toArray, List.getElem_cons_zero, List.getElem_cons_succ, List.setIfInBounds_toArray, List.set_cons_zero, List.set_cons_succ])
    refine wpAnyH_take (i := 4) (v := .pointer (some ⟨w3.heap.size, 2, none⟩)) rfl (by kernel_rfl) (by kernel_rfl) (by kernel_rfl) (fun _ _ _ h => h) (Or.inl ⟨by rfl, ?_⟩) (by assumption) ?_
    · intro w' hSw; go_simp
    (try simp only [Act.put, List.getElem_toArray, List.getElem_cons_zero, List.getElem_cons_succ, List.setIfInBounds_toArray, List.set_cons_zero, List.set_cons_succ])
    refine wpAnyH_take (i := 5) (v := .slice (some ⟨vb, vo, none⟩) t.vars.length qvc) rfl (by kernel_rfl) (by kernel_rfl) (by kernel_rfl) (fun _ _ _ h => h) (Or.inl ⟨by rfl, ?_⟩) (by assumption) ?_
    · intro w' hSw; obtain ⟨_, _, _, _, _, hx, _⟩ := HK2.out _ hSw; have z2 := mem_cell hx 2; simp only [Tsk.cells, List.getElem?_toArray, List.getElem?_cons_zero, List.getElem?_cons_succ] at z2; go_simp
    (try simp only [Act.put, List.getElem_toArray, List.getElem_cons_zero, List.getElem_cons_succ, List.setIfInBounds_toArray, List.set_cons_zero, List.set_cons_succ])
    refine wpAnyH_take (i := 6) (v := .int .i64 (t.vars.length : Int)) rfl (by kernel_rfl) (by kernel_rfl) (by kernel_rfl) (fun _ _ _ h => h) (Or.inl ⟨by rfl, ?_⟩) (by assumption) ?_
    · intro w' hSw; go_simp
    (try simp only [Act.put, List.getElem_toArray, List.getElem_cons_zero, List.getElem_cons_succ, List.setIfInBounds_toArray, List.set_cons_zero, List.set_cons_succ])
    refine wpAnyH_take (i := 7) (v := .int .i64 (y : Int)) rfl (by kernel_rfl) (by kernel_rfl) (by kernel_rfl) (fun _ _ _ h => h) (Or.inl ⟨by rfl, ?_⟩) (by assumption) ?_
    · intro w' hSw; go_simp; (rw [Int.tmod_eq_emod_of_nonneg (by omega)]; exact hy)
    (try simp only [Act.put, List.getElem_toArray, List.getElem_cons_zero, List.getElem_cons_succ, List.setIfInBounds_toArray, List.set_cons_zero, List.set_cons_succ])
    refine wpAnyH_take (i := 8) (v := .pointer (some ⟨vb, vo + y, none⟩)) rfl (by kernel_rfl) (by kernel_rfl) (by kernel_rfl) (fun _ _ _ h => h) (Or.inl ⟨by rfl, ?_⟩) (by assumption) ?_
    · intro w' hSw; go_simp
    (try simp only [Act.put, List.getElem_toArray, List.getElem_cons_zero, List.getElem_cons_succ, List.setIfInBounds_toArray, List.set_cons_zero, List.set_cons_succ])
    refine wpAnyH_take (i := 9) (v := .string v) rfl (by kernel_rfl) (by kernel_rfl) (by kernel_rfl) (fun _ _ _ h => h) (Or.inl ⟨by rfl, ?_⟩) (by assumption) ?_
    · intro w' hSw; have z0 := cell_below hSw hvc; go_simp
    (try simp only [Act.put, List.getElem_toArray, List.getElem_cons_zero, List.getElem_cons_succ, List.setIfInBounds_toArray, List.set_cons_zero, List.set_cons_succ])
    have hv0s : D.heap.size ≤ v0.heap.size := hHeld.size
    have HH0 := Lib.hid hHeld
    refine wpAnyH_ready (rs := [10]) (by kernel_rfl) (by simp) (AllReadyH.cons rfl (fun K hK => ?_) AllReadyH.nil)
    go_simp
    have hB1 : Below D.heap.size D (v0.alloc (.cells #[.string ⟨#[]⟩] 9)) := mem_then hHeld (mem_alloc _ _)
    refine hK.out _ _ (hB1) (fun hHeld => ?_)
    clear hK K
    rename_i hOld
    clear hOld
    (try simp only [Act.put, List.getElem_toArray, List.getElem_cons_zero, List.getElem_cons_succ, List.setIfInBounds_toArray, List.set_cons_zero, List.set_cons_succ])
    refine wpAnyH_ready (rs := [11]) (by kernel_rfl) (by simp) (AllReadyH.cons rfl (fun K hK => ?_) AllReadyH.nil)
    go_simp
    have hB2 : Below D.heap.size D (v0.alloc (.cells #[.string v] 9)) := mem_then HH0.out (mem_alloc _ _)
    refine hK.out _ _ (hB2) (fun hHeld => ?_)
    clear hK K
    rename_i hOld
    clear hOld
    (try simp only [Act.put, List.getElem_toArray, List.getElem_cons_zero, List.getElem_cons_succ, List.setIfInBounds_toArray, List.set_cons_zero, List.set_cons_succ])
    refine wpAnyH_done (by kernel_rfl) ?_ _
    exact ⟨[_, _, _, _, _, _, _, _, _, _], v0.heap.size, rfl, (by simp only [putAll, List.setIfInBounds_toArray, List.set_cons_zero, List.set_cons_succ]; rfl), mem_new _ _, hB2, hv0s⟩
  rintro a' E ⟨ll, nb, hll2, rfl, hnb, hBE, hnD⟩
  obtain ⟨l0, l1, l2, l3, l4, l5, l6, l7, l8, l9, rfl⟩ := list10r hll2
  simp only [List.cons_append, List.nil_append, putAll, List.setIfInBounds_toArray, List.set_cons_zero, List.set_cons_succ]
  have HNB := Lib.hid hnb
  have HBE := Lib.hid hBE
  have HND := Lib.hid hnD
  clear hll2 hnb hBE hnD hy hv hD
  have HKE : Hid (∀ w', Below E.heap.size E w' → Below w.heap.size w w' ∧ w'.cell? ⟨w.heap.size, 0, none⟩ = some (.slice sa p.shared.length sc) ∧ w'.cell? ⟨w.heap.size, 1, none⟩ = some (.slice (some ⟨tb, tf, none⟩) p.tasks.length tc) ∧ PrgAt w' p sa (some ⟨tb, tf, none⟩) ∧ SignsIn w' ∧ w'.heap[w3.heap.size]? = some (tskObj t ⟨some ⟨vb, vo, none⟩, qvc, qaa, qac, qka, qkc⟩) ∧ TskIn w' t ⟨some ⟨vb, vo, none⟩, qvc, qaa, qac, qka, qkc⟩ ∧ w'.heap[w.heap.size]? = some (prgObj p sa sc (some ⟨tb, tf, none⟩) tc) ∧ w'.heap[nb]? = some (.cells #[.string v] 9)) := fun w' h => by
    obtain ⟨h1, h2, h3, h4, h5, h6, h7, h8⟩ := HK2.out w' (mem_then HBE.out h)
    exact ⟨h1, h2, h3, h4, h5, h6, h7, h8, mem_keep HNB.out h⟩
  have HUSE : Hid (∀ (s : ByteArray) (w' : World), Below E.heap.size E w' → Calls Tryd.prog 42 #[.string s, .pointer (some ⟨w.heap.size, 0, none⟩), .pointer (some ⟨w3.heap.size, 0, none⟩)] w' fun e w'' => e = .returned (.bool (usedP p t s)) ∧ Below w'.heap.size w' w'') := fun s w' h => by
    obtain ⟨_, _, _, h4, _, h6, h7, h8, _⟩ := HKE.out w' h
    exact used_any p t _ s w.heap.size w3.heap.size w' sa (some ⟨tb, tf, none⟩) sc tc h8 h6 h4 h7 (by have := HLE.out.1; omega) (by have := (tskOk_le HTOK.out).2.1; omega) (by have := (tskOk_le HTOK.out).2.2; omega) (by have := tskOk_depth HTOK.out; omega)
  have n0 := mem_cell HNB.out 0
  simp only [List.getElem?_toArray, List.getElem?_cons_zero] at n0
  clear hvc x2
  go_wp2_with fail
  clear n0
  have h9 := HUSE.out v E (Below.refl _ _)
  refine h9.mono ?_
  clear h9
  rintro e w4 ⟨rfl, hB4⟩
  have HB4 := Lib.hid hB4
  have HEND4 := Lib.hid (HKE.out w4 hB4).1
  clear hB4
  cases hu1 : usedP p t v with
  | true =>
    clear hu1
    go_wp2_with fail
    go_ret
    exact ⟨rfl, HEND4.out⟩
  | false =>
  have HU1 := Lib.hid hu1
  clear hu1
  go_wp2_with fail
  have h9 := HUSE.out freshS w4 HB4.out
  refine h9.mono ?_
  clear h9
  rintro e w5 ⟨rfl, hB5⟩
  have HB5 : Hid (Below E.heap.size E w5) := mem_then HB4.out hB5
  obtain ⟨hend, _, _, _, _, hx5, hi5, _⟩ := HKE.out w5 HB5.out
  have HEND5 := Lib.hid hend
  have x2 := mem_cell hx5 2
  simp only [Tsk.cells, List.getElem?_toArray, List.getElem?_cons_zero, List.getElem?_cons_succ] at x2
  have HHAS := Lib.hid (strHas_any t.vars freshS w5 (some ⟨vb, vo, none⟩) qvc hi5.vars)
  clear hB5 hend hx5 hi5
  cases hu2 : usedP p t freshS with
  | true =>
    clear hu2
    go_wp2_with fail
    go_ret
    exact ⟨rfl, HEND5.out⟩
  | false =>
  have HU2 := Lib.hid hu2
  clear hu2
  go_wp2_with fail
  clear x2
  have h9 := HHAS.out
  refine h9.mono ?_
  clear h9
  rintro e w6 ⟨rfl, hB6⟩
  have HB6 : Hid (Below E.heap.size E w6) := mem_then HB5.out hB6
  obtain ⟨hend, _, _, _, _, hx6, hi6, _⟩ := HKE.out w6 HB6.out
  have HEND6 := Lib.hid hend
  have x4 := mem_cell hx6 4
  have x5 := mem_cell hx6 5
  have x6 := mem_cell hx6 6
  have x7 := mem_cell hx6 7
  simp only [Tsk.cells, List.getElem?_toArray, List.getElem?_cons_zero, List.getElem?_cons_succ] at x4 x5 x6 x7
  have h8 := where_any (fun x => decide (x.name = freshS)) 46 #[] (enters_of Tryd.func46 (by kernel_rfl) rfl) t.body w6 qka qkc hi6.body (by have := (tskOk_le HTOK.out).2.2; omega) (by have := tskOk_depth HTOK.out; omega) (fun x W' a c hb hr => freshF_any x W' a c hr)
  obtain ⟨n, hn⟩ : ∃ n, (wantP (fun x => decide (x.name = freshS)) (t.body.items [])).length = n := ⟨_, rfl⟩
  have HNW := Lib.hid hn
  rw [hn] at h8
  have H8 := Lib.hid h8
  clear hB6 hend hx6 hi6 h8 hn
  cases hu3 : memB t.vars freshS with
  | true =>
    clear hu3
    go_wp2_with fail
    go_ret
    exact ⟨rfl, HEND6.out⟩
  | false =>
  have HU3 := Lib.hid hu3
  clear hu3
  go_wp2_with fail
  clear x4 x5 x6 x7
  have h9 := H8.out
  refine h9.mono ?_
  clear h9
  rintro e w7 ⟨a7, c7, rfl, _, hB7⟩
  have HB7 : Hid (Below E.heap.size E w7) := mem_then HB6.out hB7
  have HEND7 := Lib.hid (HKE.out w7 HB7.out).1
  clear hB7
  by_cases hn0 : 0 < n
  · have hnd : decide (0 < n) = true := decide_eq_true hn0
    clear hn0
    go_wp2_with fail
    go_ret
    exact ⟨rfl, HEND7.out⟩
  have hnd : decide (0 < n) = false := decide_eq_false hn0
  have HWN : Hid (wantP (fun x => decide (x.name = freshS)) (t.body.items []) = []) := List.length_eq_zero_iff.1 (by have := HNW.out; omega)
  clear hn0
  -- what the law has found
  have HRD : Hid (RenD v ⟨p.shared.map (·.name), t.vars, t.arrays.map (·.name)⟩ ∧ EdOk (renN v) (renQ v) t.body) := by
    have h1 := HU1.out
    have h2 := HU2.out
    unfold usedP at h1 h2
    rw [Bool.or_eq_false_iff, memB_append, Bool.or_eq_false_iff] at h1 h2
    have h3 : wantP (usedF v) (t.body.items []) = [] := List.length_eq_zero_iff.1 (by have := of_decide_eq_false h1.2; omega)
    refine ⟨⟨h1.1.1, h2.1.1, h1.1.2, h2.1.2, memB_iff.2 HVM.out, memB_false.1 HU3.out⟩, ren_ok t.body [] (fun x hx => ⟨?_, fun hk e => ?_⟩)⟩
    · exact of_decide_eq_false (want_none HWN.out x hx)
    · have h4 := want_none h3 x hx
      unfold usedF at h4
      rw [decide_eq_true e, decide_eq_false hk] at h4
      cases h4
  obtain ⟨_, _, _, _, _, hx7, hi7, _, _⟩ := HKE.out w7 HB7.out
  have x0 := mem_cell hx7 0
  have x1 := mem_cell hx7 1
  have x2 := mem_cell hx7 2
  have x3 := mem_cell hx7 3
  have x4 := mem_cell hx7 4
  have x5 := mem_cell hx7 5
  have x6 := mem_cell hx7 6
  have x7 := mem_cell hx7 7
  simp only [Tsk.cells, List.getElem?_toArray, List.getElem?_cons_zero, List.getElem?_cons_succ] at x0 x1 x2 x3 x4 x5 x6 x7
  obtain ⟨F, hF⟩ : ∃ F : World, w7.alloc (tskObj t ⟨some ⟨vb, vo, none⟩, qvc, qaa, qac, qka, qkc⟩) = F := ⟨_, rfl⟩
  have hBF : Below w7.heap.size w7 F := by rw [← hF]; exact mem_alloc _ _
  have HFX : Hid (F.heap[w7.heap.size]? = some (tskObj t ⟨some ⟨vb, vo, none⟩, qvc, qaa, qac, qka, qkc⟩)) := by show _ = _; rw [← hF]; exact mem_new _ _
  have HBF : Hid (Below E.heap.size E F) := mem_then HB7.out hBF
  have HUE : Hid (E.heap.size ≤ w7.heap.size ∧ w7.heap.size < F.heap.size) := ⟨HB7.out.size, mem_lt HFX.out⟩
  have hFn : w7.heap.size < F.heap.size := mem_lt HFX.out
  have hl3F : w3.heap.size < F.heap.size := mem_lt (mem_keep hx7 hBF)
  have x2F := mem_cell (mem_keep hx7 hBF) 2
  simp only [Tsk.cells, List.getElem?_toArray, List.getElem?_cons_zero, List.getElem?_cons_succ] at x2F
  have HSRC : Hid (Src F (some ⟨vb, vo, none⟩) t.vars.length 1 (t.vars.map Value.string)) := (hi7.below hBF).vars.src
  have HMADE : Hid ((F.alloc (.cells #[] 9)).ownsRow F.heap.size 9 1 (.slice (some ⟨F.heap.size, 0, none⟩) 0 0) 0 []) := World.ownsRow_made _ #[] 0 (Nat.le_refl _) (by unfold maxLen; omega) rfl
  clear hx7 hi7 hBF
  go_wp2_with (at_builtin; refine wpList_append_src _ rfl (.tmp 83) (.tmp 85) 40 rfl F.heap.size 9 ti _ 1 16 Tryd.underlying40 hti hz0 hz1 hz2 rfl (by decide) (.slice (some ⟨F.heap.size, 0, none⟩) 0 0) 0 [] rfl HMADE.out (some ⟨vb, vo, none⟩) t.vars.length qvc (t.vars.map Value.string) rfl (HSRC.out.below (mem_alloc _ _)) strs_ones (by unfold maxLen; omega) (by omega) (by simp) ?_)
  intro v9 w9 hown9 hgrow9 _
  obtain ⟨A9, c9, rfl⟩ := own_val hown9
  have hB9 : Below F.heap.size F w9 := (mem_alloc F _).grown hgrow9 (by simp) (fun b hb => by cases hb; exact Nat.le_refl _)
  have hX9 := mem_keep HFX.out hB9
  have u2 := mem_cell hX9 2
  have f2 := mem_free hX9 2
  simp only [Tsk.cells, List.getElem?_toArray, List.getElem?_cons_zero, List.getElem?_cons_succ] at u2
  clear x0 x1 x2 x3 x4 x5 x6 x7 x2F hF hnd
  go_upto_region 13 with fail
  obtain ⟨w10, hw10⟩ : ∃ w10 : World, w9.setCell ⟨w7.heap.size, 2, none⟩ (.slice A9 t.vars.length c9) = w10 := ⟨_, rfl⟩
  rw [hw10]
  have HX10 : Hid (w10.heap[w7.heap.size]? = some (tskObj t ⟨A9, c9, qaa, qac, qka, qkc⟩)) := by
    show _ = _
    rw [← hw10, mem_set hX9]
    rfl
  have HOWN10 : Hid (w10.ownsRow F.heap.size 9 1 (.slice A9 t.vars.length c9) t.vars.length (t.vars.map Value.string)) := by
    show World.ownsRow _ _ _ _ _ _ _
    rw [← hw10]
    exact own_keep hown9 (fun k hk _ => Below.heap_setCell _ _ _ _ (fun e => by
      have e : k = w7.heap.size := e
      have := (own_lt hown9 hk).1
      omega))
  have HB10 : Hid (Below E.heap.size E w10) := by
    show Below _ _ _
    rw [← hw10]
    exact (mem_then HBF.out hB9).setCell HUE.out.1 _
  have u2 := mem_cell HX10.out 2
  simp only [Tsk.cells, List.getElem?_toArray, List.getElem?_cons_zero, List.getElem?_cons_succ] at u2
  clear hown9 hgrow9 hB9 hX9 f2 hw10
  go_wp2_with fail
  clear u2
  go_loopw [12, 13, 91] (fun _ _ iv wr => ∃ j : Nat, j ≤ t.vars.length ∧ iv = .int .i64 (j : Int) ∧ wr.ownsRow F.heap.size 9 1 (.slice A9 t.vars.length c9) t.vars.length (((t.vars.take j).map (renS v) ++ t.vars.drop j).map Value.string) ∧ wr.heap[w7.heap.size]? = some (tskObj t ⟨A9, c9, qaa, qac, qka, qkc⟩) ∧ Below E.heap.size E wr) (fun _ _ iv _ => t.vars.length - (intOf iv).toNat)
  case atStart => exact ⟨0, Nat.zero_le _, rfl, by rw [List.take_zero, List.drop_zero]; exact HOWN10.out, HX10.out, HB10.out⟩
  case round =>
    clear HOWN10 HX10 HB10 HMADE HSRC
    obtain ⟨j, hj, rfl, hown, hux, hBr⟩ := hrel
    have HOWN := Lib.hid hown
    have HUX := Lib.hid hux
    have HBK := Lib.hid hBr
    have hj0 : (0 : Int) ≤ (j : Int) := by omega
    obtain ⟨_, _, _, _, _, _, _, _, hnbx⟩ := HKE.out wr hBr
    have n0 := mem_cell hnbx 0
    have u2 := mem_cell hux 2
    simp only [Tsk.cells, List.getElem?_toArray, List.getElem?_cons_zero, List.getElem?_cons_succ] at n0 u2
    clear hux hBr hnbx
    by_cases hlt : j < t.vars.length
    · have hlt2 : (j : Int) < (t.vars.length : Int) := by omega
      have hltv : j < t.vars.length := hlt
      obtain ⟨g, rfl, hgF, _⟩ := own_at hown (by omega)
      obtain ⟨x, hx⟩ : ∃ x, t.vars.getD j ⟨#[]⟩ = x := ⟨_, rfl⟩
      have hget : ((t.vars.take j).map (renS v) ++ t.vars.drop j)[j]? = some x := by
        have hk : ((t.vars.take j).map (renS v)).length = j := by rw [List.length_map, List.length_take]; omega
        rw [List.getElem?_append_right (by omega), hk, Nat.sub_self, List.getElem?_drop, Nat.add_zero, getD_of (d := ⟨#[]⟩) hltv, hx]
      have r0 : wr.cell? ⟨g, j, none⟩ = some (.string x) := own_get hown (by rw [List.getElem?_map, hget]; rfl)
      have r1 := row_frz hown j
      have hgn : g ≠ w7.heap.size := fun e => by
        have := HUE.out.2
        omega
      have HNX : Hid (((t.vars.take (j + 1)).map (renS v) ++ t.vars.drop (j + 1)) = ((t.vars.take j).map (renS v) ++ t.vars.drop j).set j (renS v x)) := by show _ = _; rw [ren_take hltv, hx]
      have HSELF : Hid (((t.vars.take j).map (renS v) ++ t.vars.drop j).set j x = (t.vars.take j).map (renS v) ++ t.vars.drop j) := by
        refine List.ext_getElem? fun m => ?_
        rw [List.getElem?_set]
        by_cases hm : j = m
        · subst hm
          rw [if_pos rfl, hget]
          split
          · rfl
          · rename_i h; exact absurd (List.getElem?_eq_some_iff.1 hget).1 h
        · rw [if_neg hm]
      by_cases hxv : x = v
      · have hb : (x.toList == v.toList) = true := str_eqq hxv
        have HR : Hid (renS v x = freshS) := if_pos hxv
        have HSET : Hid ((wr.setCell ⟨g, j, none⟩ (.string ⟨#[122, 122, 122, 102, 114, 101, 115, 104]⟩)).ownsRow F.heap.size 9 1 (.slice (some ⟨g, 0, none⟩) t.vars.length c9) t.vars.length (((t.vars.take (j + 1)).map (renS v) ++ t.vars.drop (j + 1)).map Value.string)) := by
          have h := ownsRow_set (u := .string ⟨#[122, 122, 122, 102, 114, 101, 115, 104]⟩) hown (by omega : j < t.vars.length * 1)
          show World.ownsRow _ _ _ _ _ _ _
          rw [HNX.out, HR.out, List.map_set]
          exact h
        have HUS : Hid ((wr.setCell ⟨g, j, none⟩ (.string ⟨#[122, 122, 122, 102, 114, 101, 115, 104]⟩)).heap[w7.heap.size]? = some (tskObj t ⟨some ⟨g, 0, none⟩, c9, qaa, qac, qka, qkc⟩)) := (Below.heap_setCell _ _ _ _ (fun e => hgn e.symm)).trans HUX.out
        have HBS : Hid (Below E.heap.size E (wr.setCell ⟨g, j, none⟩ (.string ⟨#[122, 122, 122, 102, 114, 101, 115, 104]⟩))) := HBK.out.setCell (show E.heap.size ≤ g by have := HUE.out; omega) _
        clear hown hgF hx hget hgn hxv HNX HSELF
        go_wp2_with fail
        clear r0 r1 u2 n0
        go_roundw
        case rel => exact ⟨j + 1, by omega, by go_num, HSET.out, HUS.out, HBS.out⟩
        case measure => simp [intOf]; omega
      · have hb : (x.toList == v.toList) = false := str_neq hxv
        have HSAME : Hid (wr.ownsRow F.heap.size 9 1 (.slice (some ⟨g, 0, none⟩) t.vars.length c9) t.vars.length (((t.vars.take (j + 1)).map (renS v) ++ t.vars.drop (j + 1)).map Value.string)) := by
          show World.ownsRow _ _ _ _ _ _ _
          rw [HNX.out, renS_other hxv, HSELF.out]
          exact hown
        clear hown hgF hx hget hgn hxv HNX HSELF
        go_wp2_with fail
        clear r0 r1 u2 n0
        go_roundw
        case rel => exact ⟨j + 1, by omega, by go_num, HSAME.out, HUX.out, HBK.out⟩
        case measure => simp [intOf]; omega
    · obtain rfl : j = t.vars.length := by omega
      have hvars : (t.vars.take t.vars.length).map (renS v) ++ t.vars.drop t.vars.length = t.vars.map (renS v) := by rw [List.take_length, List.drop_length, List.append_nil]
      have HVARS : Hid (wr.ownsRow F.heap.size 9 1 (.slice A9 (t.vars.map (renS v)).length c9) (t.vars.map (renS v)).length ((t.vars.map (renS v)).map Value.string)) := by
        show World.ownsRow _ _ _ _ _ _ _
        rw [hvars] at hown
        rw [List.length_map]
        exact hown
      obtain ⟨w11, hw11⟩ : ∃ w11 : World, w11 = wr := ⟨_, rfl⟩
      rw [← hw11] at HVARS HUX HBK ⊢
      obtain ⟨_, _, _, _, _, htx, hti11, _, hnbx⟩ := HKE.out w11 HBK.out
      have HTB := Lib.hid hti11
      have x4 := mem_cell htx 4
      have x5 := mem_cell htx 5
      have x6 := mem_cell htx 6
      have x7 := mem_cell htx 7
      simp only [Tsk.cells, List.getElem?_toArray, List.getElem?_cons_zero, List.getElem?_cons_succ] at x4 x5 x6 x7
      have h8 := edit_any (renN v) (renQ v) 47 #[.pointer (some ⟨nb, 0, none⟩)] (enters_of Tryd.func47 (by kernel_rfl) rfl) w11 (fun x S W a c hb _ hr => renOne_any v nb x S W a c hr (mem_keep hnbx hb)) t.body w11 qka qkc (Below.refl _ _) HRD.out.2 hti11.body (by have := (tskOk_le HTOK.out).2.2; omega)
      have H8 := Lib.hid h8
      clear hown hvars hw11 u2 n0 htx hti11 hnbx h8 HOWN
      go_wp2_with fail
      clear x4 x5 x6 x7
      have h9 := H8.out
      refine h9.mono ?_
      clear h9
      rintro e w12 ⟨a3, c3, rfl, hr12, hB12⟩
      obtain ⟨B, hBdef⟩ : ∃ B, editT (renN v) t.body = B := ⟨_, rfl⟩
      rw [hBdef] at hr12 ⊢
      have HBDF := Lib.hid hBdef
      have HR12 := Lib.hid hr12
      have HB12 : Hid (Below E.heap.size E w12) := mem_then HBK.out hB12
      have HU12 := Lib.hid (mem_keep HUX.out hB12)
      have HV12 := Lib.hid (own_below HVARS.out hB12)
      have hs11 : w7.heap.size < w11.heap.size := mem_lt HUX.out
      have x4 := mem_cell HU12.out 4
      have x5 := mem_cell HU12.out 5
      have x6 := mem_cell HU12.out 6
      have x7 := mem_cell HU12.out 7
      have f4 := mem_free HU12.out 4
      have f5 := mem_free HU12.out 5
      have f6 := mem_free HU12.out 6
      have f7 := mem_free HU12.out 7
      simp only [Tsk.cells, List.getElem?_toArray, List.getElem?_cons_zero, List.getElem?_cons_succ] at x4 x5 x6 x7
      clear hr12 hB12 hBdef
      go_upto_region 20 with fail
      obtain ⟨w13, hw13⟩ : ∃ w13 : World, w13 = (((w12.setCell ⟨w7.heap.size, 4, none⟩ (.int .u8 B.kind)).setCell ⟨w7.heap.size, 5, none⟩ (.int .i64 B.num)).setCell ⟨w7.heap.size, 6, none⟩ (.string B.name)).setCell ⟨w7.heap.size, 7, none⟩ (.slice a3 B.len c3) := ⟨_, rfl⟩
      rw [← hw13]
      have h13 : w13.heap[w7.heap.size]? = some (tskObj (renTsk v t) ⟨A9, c9, qaa, qac, a3, c3⟩) := by
        rw [hw13, mem_set (mem_set (mem_set (mem_set HU12.out))), ← HBDF.out]
        have e : (renTsk v t).vars.length = t.vars.length := List.length_map ..
        show _ = some (Obj.cells #[.string t.name, .int .i64 t.period, .slice A9 (renTsk v t).vars.length c9, .slice qaa t.arrays.length qac, .int .u8 (renT v t.body).kind, .int .i64 (renT v t.body).num, .string (renT v t.body).name, .slice a3 (renT v t.body).len c3] 45)
        rw [e]
        rfl
      have hoth : ∀ {k : Nat}, k ≠ w7.heap.size → w13.heap[k]? = w12.heap[k]? := fun {k} hn => by
        rw [hw13, Below.heap_setCell _ _ _ _ hn, Below.heap_setCell _ _ _ _ hn, Below.heap_setCell _ _ _ _ hn, Below.heap_setCell _ _ _ _ hn]
      have HB13 : Hid (Below E.heap.size E w13) := by
        have hge := HUE.out.1
        show Below _ _ _
        rw [hw13]
        exact (((HB12.out.setCell (p := ⟨w7.heap.size, 4, none⟩) hge _).setCell (p := ⟨w7.heap.size, 5, none⟩) hge _).setCell (p := ⟨w7.heap.size, 6, none⟩) hge _).setCell (p := ⟨w7.heap.size, 7, none⟩) hge _
      have hr13 : Rep w13 (renT v t.body) a3 := by
        have h := HR12.out
        rw [← HBDF.out] at h
        exact (h.move (S' := fun _ => True) (fun k hk _ => hoth (by omega)) (fun _ _ _ => trivial)).rep
      have hv13 : w13.ownsRow F.heap.size 9 1 (.slice A9 (t.vars.map (renS v)).length c9) (t.vars.map (renS v)).length ((t.vars.map (renS v)).map Value.string) := own_keep HV12.out (fun k hk _ => hoth (fun e => by
        have h1 := (own_lt HV12.out hk).1
        have h2 := HUE.out.2
        omega))
      have hi13 := (HKE.out w13 HB13.out).2.2.2.2.2.2.1
      have HSZV : Hid (∀ s ∈ t.vars.map (renS v), s.size ≤ 9223372036854775807) := fun s hs => by
        obtain ⟨s', hs', rfl⟩ := List.mem_map.1 hs
        unfold renS
        split
        · show freshS.size ≤ _; decide
        · exact hi13.vars.sizes s' hs'
      have HI13 : Hid (TskIn w13 (renTsk v t) ⟨A9, c9, qaa, qac, a3, c3⟩) := ⟨hi13.name, hi13.period, strs_own hv13 HSZV.out, hi13.arrays, hr13⟩
      have HX13 := Lib.hid h13
      have HKZ : Hid (∀ w', Below w13.heap.size w13 w' → Below w.heap.size w w' ∧ w'.cell? ⟨w.heap.size, 0, none⟩ = some (.slice sa p.shared.length sc) ∧ w'.cell? ⟨w.heap.size, 1, none⟩ = some (.slice (some ⟨tb, tf, none⟩) p.tasks.length tc) ∧ PrgAt w' p sa (some ⟨tb, tf, none⟩) ∧ SignsIn w' ∧ w'.heap[w7.heap.size]? = some (tskObj (renTsk v t) ⟨A9, c9, qaa, qac, a3, c3⟩) ∧ TskIn w' (renTsk v t) ⟨A9, c9, qaa, qac, a3, c3⟩ ∧ w'.heap[nb]? = some (.cells #[.string v] 9)) := fun w' h => by
        obtain ⟨h1, h2, h3, h4, h5, _, _, _, h9⟩ := HKE.out w' (mem_then HB13.out h)
        exact ⟨h1, h2, h3, h4, h5, mem_keep HX13.out h, HI13.out.below h, h9⟩
      clear hw13 h13 hoth hr13 hv13 hi13 x4 x5 x6 x7 f4 f5 f6 f7
      have hpt : p.tasks.length ≤ 8 := HLE.out.2.1
      refine cut_runA (RunEnd45 109 7 14 15 (fun v1 v2 w' => ∃ L M, FltsAt w13.heap.size w' v1 L ∧ flat L = checkE p ∧ FltsAt w13.heap.size w' v2 M ∧ flat M = checkE (swapP p i (renTsk v t)) ∧ L.length ≤ 4000 ∧ Below w13.heap.size w13 w')) ?_ ?_
      · refine wp_region_held_drew (S := fun w' => Below w13.heap.size w13 w') (by kernel_rfl) ((Below.refl _ _).drew) (fun hHeld => ?_)
        generalize hwd : World.drew _ = v0 at hHeld ⊢
        clear hwd
        refine wpAnyH_take (i := 0) (v := .agg #[.slice sa p.shared.length sc, .slice (some ⟨tb, tf, none⟩) p.tasks.length tc]) rfl (by kernel_rfl) (by kernel_rfl) (by kernel_rfl) (fun _ _ _ h => h) (Or.inl ⟨by rfl, ?_⟩) (by assumption) ?_
        · intro w' hSw; obtain ⟨_, z0, z1, _⟩ := HKZ.out _ hSw; go_simp
        (try simp only [Act.put, List.getElem_toArray, List.getElem_cons_zero, List.setIfInBounds_toArray, List.set_cons_zero, List.set_cons_succ])
        refine wpAnyH_take (i := 2) (v := .agg #[.slice sa p.shared.length sc, .slice (some ⟨tb, tf, none⟩) p.tasks.length tc]) rfl (by kernel_rfl) (by kernel_rfl) (by kernel_rfl) (fun _ _ _ h => h) (Or.inl ⟨by rfl, ?_⟩) (by assumption) ?_
        · intro w' hSw; obtain ⟨_, z0, z1, _⟩ := HKZ.out _ hSw; go_simp
        (try simp only [Act.put, List.getElem_toArray, List.getElem_cons_zero, List.getElem_cons_succ, List.setIfInBounds_toArray, List.set_cons_zero, List.set_cons_succ])
        refine wpAnyH_take (i := 3) (v := .int .i64 (i : Int)) rfl (by kernel_rfl) (by kernel_rfl) (by kernel_rfl) (fun _ _ _ h => h) (Or.inl ⟨by rfl, ?_⟩) (by assumption) ?_
        · intro w' hSw; go_simp
        (try simp only [Act.put, List.getElem_toArray, List.getElem_cons_zero, List.getElem_cons_succ, List.setIfInBounds_toArray, List.set_cons_zero, List.set_cons_succ])
        refine wpAnyH_take (i := 4) (v := .agg ((renTsk v t).cells ⟨A9, c9, qaa, qac, a3, c3⟩)) rfl (by kernel_rfl) (by kernel_rfl) (by kernel_rfl) (fun _ _ _ h => h) (Or.inl ⟨by rfl, ?_⟩) (by assumption) ?_
        · intro w' hSw; obtain ⟨_, _, _, _, _, hx, _⟩ := HKZ.out _ hSw; have z0 := mem_cell hx 0; have z1 := mem_cell hx 1; have z2 := mem_cell hx 2; have z3 := mem_cell hx 3; have z4 := mem_cell hx 4; have z5 := mem_cell hx 5; have z6 := mem_cell hx 6; have z7 := mem_cell hx 7; simp only [Tsk.cells, List.getElem?_toArray, List.getElem?_cons_zero, List.getElem?_cons_succ] at z0 z1 z2 z3 z4 z5 z6 z7; go_simp; rfl
        (try simp only [Act.put, List.getElem_toArray, List.getElem_cons_zero, List.getElem_cons_succ, List.setIfInBounds_toArray, List.set_cons_zero, List.set_cons_succ])
        refine wpAnyH_ready (rs := [1]) (by kernel_rfl) (by simp) (AllReadyH.cons rfl (fun K hK => ?_) AllReadyH.nil)
        go_simp
        have hk0 := HKZ.out v0 hHeld
        have h9 := check_any p v0 sa (some ⟨tb, tf, none⟩) sc tc hk0.2.2.2.1 hk0.2.2.2.2.1
        refine h9.mono ?_
        clear h9 hk0
        rintro e w14 ⟨v1, L, rfl, hL, hFL, hLl, hb⟩
        obtain ⟨aL, cL, rfl⟩ := own_val hL.ro
        have HL14 := Lib.hid (hL.down hHeld.size)
        have HFL := Lib.hid hFL
        have HLL := Lib.hid hLl
        have HB14 := Lib.hid (mem_then hHeld hb)
        clear hL hFL hLl hb
        refine hK.out _ _ (HB14.out) (fun hHeld => ?_)
        clear hK K
        rename_i hOld
        clear hOld
        (try simp only [Act.put, List.getElem_toArray, List.getElem_cons_zero, List.getElem_cons_succ, List.setIfInBounds_toArray, List.set_cons_zero, List.set_cons_succ])
        refine wpAnyH_ready (rs := [5]) (by kernel_rfl) (by simp) (AllReadyH.cons rfl (fun K hK => ?_) AllReadyH.nil)
        go_simp
        have hk0 := HKZ.out w14 HB14.out
        have h9 := swap_any p i (renTsk v t) ⟨A9, c9, qaa, qac, a3, c3⟩ w14 sa (some ⟨tb, tf, none⟩) sc tc hk0.2.2.2.1 hk0.2.2.2.2.2.2.1 hil (by omega)
        refine h9.mono ?_
        clear h9 hk0
        rintro e w15 ⟨ta', tc', rfl, hp15, hb⟩
        have HP15 := Lib.hid hp15
        have HL15 := Lib.hid (HL14.out.keep hb)
        have HB15 := Lib.hid (mem_then HB14.out hb)
        clear hp15 hb
        refine hK.out _ _ (HB15.out) (fun hHeld => ?_)
        clear hK K
        rename_i hOld
        clear hOld
        (try simp only [Act.put, List.getElem_toArray, List.getElem_cons_zero, List.getElem_cons_succ, List.setIfInBounds_toArray, List.set_cons_zero, List.set_cons_succ])
        refine wpAnyH_ready (rs := [6]) (by kernel_rfl) (by simp) (AllReadyH.cons rfl (fun K hK => ?_) AllReadyH.nil)
        go_simp
        have h9 := check_any (swapP p i (renTsk v t)) w15 sa ta' sc tc' HP15.out (HKZ.out w15 HB15.out).2.2.2.2.1
        refine h9.mono ?_
        clear h9
        rintro e w16 ⟨v2, M, rfl, hM, hFM, _, hb⟩
        obtain ⟨aM, cM, rfl⟩ := own_val hM.ro
        have HM16 := Lib.hid (hM.down HB15.out.size)
        have HFM := Lib.hid hFM
        have HL16 := Lib.hid (HL15.out.keep hb)
        have HB16 := Lib.hid (mem_then HB15.out hb)
        clear hM hFM hb
        refine hK.out _ _ (HB16.out) (fun hHeld => ?_)
        clear hK K
        rename_i hOld
        clear hOld
        (try simp only [Act.put, List.getElem_toArray, List.getElem_cons_zero, List.getElem_cons_succ, List.setIfInBounds_toArray, List.set_cons_zero, List.set_cons_succ])
        refine wpAnyH_ready (rs := [7]) (by kernel_rfl) (by simp) (AllReadyH.cons rfl (fun K hK => ?_) AllReadyH.nil)
        go_simp
        refine hK.out _ _ (HB16.out) (fun hHeld => ?_)
        clear hK K
        rename_i hOld
        clear hOld
        (try simp only [Act.put, List.getElem_toArray, List.getElem_cons_zero, List.getElem_cons_succ, List.setIfInBounds_toArray, List.set_cons_zero, List.set_cons_succ])
        refine wpAnyH_ready (rs := [8]) (by kernel_rfl) (by simp) (AllReadyH.cons rfl (fun K hK => ?_) AllReadyH.nil)
        go_simp
        refine hK.out _ _ (HB16.out) (fun hHeld => ?_)
        clear hK K
        rename_i hOld
        clear hOld
        (try simp only [Act.put, List.getElem_toArray, List.getElem_cons_zero, List.getElem_cons_succ, List.setIfInBounds_toArray, List.set_cons_zero, List.set_cons_succ])
        refine wpAnyH_done (by kernel_rfl) ?_ _
        exact ⟨[_, _, _, _, _, _, _], _, _, rfl, (by simp only [putAll, List.setIfInBounds_toArray, List.set_cons_zero, List.set_cons_succ]; rfl), L, M, HL16.out, HFL.out, HM16.out, HFM.out, HLL.out, HB16.out⟩
      rintro a' w16 ⟨ll, v1, v2, hll2, rfl, L, M, hL, hFL, hM, hFM, hLl, hB16⟩
      obtain ⟨l0, l1, l2, l3, l4, l5, l6, rfl⟩ := list7r hll2
      simp only [List.cons_append, List.nil_append, putAll, List.setIfInBounds_toArray, List.set_cons_zero, List.set_cons_succ]
      obtain ⟨aL, cL, rfl⟩ := own_val hL.ro
      obtain ⟨aM, cM, rfl⟩ := own_val hM.ro
      have HREL : Hid (M.length = L.length ∧ ∀ j (a : j < L.length) (b : j < M.length), renRel (i : Int) v ⟨L[j].task, L[j].flt⟩ ⟨M[j].task, M[j].flt⟩) := (check_ren HT.out HV.out hil HRD.out.1 HRD.out.2).at hFL hFM
      have HL16 := Lib.hid hL
      have HM16 := Lib.hid hM
      have HB16 := Lib.hid hB16
      obtain ⟨n2, hn2⟩ : ∃ n2, n2 = L.length := ⟨_, rfl⟩
      have HN2 := Lib.hid hn2
      have hn2l : n2 ≤ 4000 := by omega
      have hnn : ((n2 : Int) != (n2 : Int)) = false := by simp
      rw [HREL.out.1, ← hn2]
      clear hll2 hL hM hFL hFM hLl hB16 hn2
      go_wp2_with fail
      clear hnn
      go_loopw [16, 123] (fun _ iv wq => ∃ m : Nat, m ≤ n2 ∧ iv = .int .i64 (m : Int) ∧ Below w16.heap.size w16 wq) (fun _ iv _ => n2 - (intOf iv).toNat)
      case atStart => exact ⟨0, Nat.zero_le _, rfl, Below.refl _ _⟩
      case round =>
        obtain ⟨m, hm, rfl, hB⟩ := hrel
        have HB := Lib.hid hB
        have hm0 : (0 : Int) ≤ (m : Int) := by omega
        clear hB
        by_cases hlt : m < n2
        ·
          have hlt2 : (m : Int) < (n2 : Int) := by omega
          have hltL : m < L.length := by have := HN2.out; omega
          have hltM : m < M.length := by have := HREL.out.1; omega
          have HL3 : Hid (FltsAt w13.heap.size wr (.slice aL L.length cL) L) := HL16.out.keep HB.out
          have HM3 : Hid (FltsAt w13.heap.size wr (.slice aM M.length cM) M) := HM16.out.keep HB.out
          obtain ⟨g1, rfl, _, _⟩ := own_at HL3.out.ro (by omega)
          obtain ⟨g2, rfl, _, _⟩ := own_at HM3.out.ro (by omega)
          obtain ⟨r0, r1, r2, r3⟩ := HL3.out.four hltL
          obtain ⟨q0, q1, q2, q3⟩ := HM3.out.four hltM
          have HPA := Lib.hid (HL3.out.ri L[m] (List.getElem_mem hltL))
          have HQA := Lib.hid (HM3.out.ri M[m] (List.getElem_mem hltM))
          have HFE := Lib.hid (HREL.out.2 m hltL hltM)
          obtain ⟨f, hf⟩ : ∃ f, L[m] = f := ⟨_, rfl⟩
          obtain ⟨g, hg⟩ : ∃ g, M[m] = g := ⟨_, rfl⟩
          rw [hf] at r0 r1 r2 r3 HPA HFE
          rw [hg] at q0 q1 q2 q3 HQA HFE
          clear hf hg
          obtain ⟨ft, ⟨fp, fe, fn⟩, fv⟩ := f
          obtain ⟨gt, ⟨gp, ge, gn⟩, gv⟩ := g
          obtain ⟨e1, e2, e3, e4⟩ := HFE.out
          obtain rfl : gt = ft := e1
          obtain rfl : ge = fe := e2
          obtain rfl : gp = fp := e3
          have HE4 : Hid (gn = fn ∨ (gt = (i : Int) ∧ fn = v ∧ ge = 8 ∧ gp = [] ∧ gn = freshS)) := e4
          obtain ⟨fa, fc, rfl⟩ : ∃ fa fc, fv = .slice fa gp.length fc := own_val HPA.out
          obtain ⟨qa, qc, rfl⟩ : ∃ fa fc, gv = .slice fa gp.length fc := own_val HQA.out
          have HFR : Hid (IRow wr fa gp) := PathV.row HPA.out
          have HQR : Hid (IRow wr qa gp) := PathV.row HQA.out
          have hpz : gp.length ≤ 9223372036854775807 := HFR.out.1
          obtain ⟨D9, hD9⟩ : ∃ D : World, wr.alloc (.cells #[.int .i64 gt, .slice fa gp.length fc, .int .i64 ge, .string fn] 38) = D := ⟨_, rfl⟩
          have hBD : Below wr.heap.size wr D9 := by rw [← hD9]; exact mem_alloc _ _
          have hX : D9.heap[wr.heap.size]? = some (.cells #[.int .i64 gt, .slice fa gp.length fc, .int .i64 ge, .string fn] 38) := by rw [← hD9]; exact mem_new _ _
          have HBD : Hid (Below w16.heap.size w16 D9) := HB.out.trans (hBD.mono HB.out.size)
          have HS1 : Hid (∀ w', Below D9.heap.size D9 w' → w'.cell? ⟨wr.heap.size, 0, none⟩ = some (.int .i64 gt) ∧ w'.cell? ⟨wr.heap.size, 1, none⟩ = some (.slice fa gp.length fc) ∧ w'.cell? ⟨wr.heap.size, 2, none⟩ = some (.int .i64 ge) ∧ w'.cell? ⟨wr.heap.size, 3, none⟩ = some (.string fn) ∧ w'.cell? ⟨g2, m * 4, none⟩ = some (.int .i64 gt) ∧ w'.cell? ⟨g2, m * 4 + 1, none⟩ = some (.slice qa gp.length qc) ∧ w'.cell? ⟨g2, m * 4 + 2, none⟩ = some (.int .i64 ge) ∧ w'.cell? ⟨g2, m * 4 + 3, none⟩ = some (.string gn) ∧ w'.cell? ⟨nb, 0, none⟩ = some (.string v)) := fun w' h =>
            ⟨(mem_cell (mem_keep hX h) 0).trans rfl, (mem_cell (mem_keep hX h) 1).trans rfl, (mem_cell (mem_keep hX h) 2).trans rfl, (mem_cell (mem_keep hX h) 3).trans rfl, cell_below h (cell_below hBD q0), cell_below h (cell_below hBD q1), cell_below h (cell_below hBD q2), cell_below h (cell_below hBD q3), (mem_cell (HKZ.out w' (mem_then (mem_then HB16.out HBD.out) h)).2.2.2.2.2.2.2 0).trans rfl⟩
          have HFRD := Lib.hid (HFR.out.below hBD)
          have HQRD := Lib.hid (HQR.out.below hBD)
          obtain ⟨cc, hcc⟩ : ∃ b, (decide (gt = (i : Int)) && (decide (fn = v) && (decide (ge = 8) && decide (gp = [])))) = b := ⟨_, rfl⟩
          have HCC := Lib.hid hcc
          clear hX hBD HPA HQA HFE HFR HQR q0 q1 q2 q3 e4 hcc
          obtain ⟨z1, z2, z3, z4, _, _, _, _, z9⟩ := HS1.out D9 (Below.refl _ _)
          go_upto_region 26 with fail
          clear hD9 r0 r1 r2 r3
          go_cut [148] (fun s w' => s = .bool cc ∧ w' = D9)
          case first =>
            by_cases h1 : gt = (i : Int)
            · have b1 : (gt == (i : Int)) = true := by simp [h1]
              by_cases h2 : fn = v
              · have b2 : (fn.toList == v.toList) = true := str_eqq h2
                by_cases h3 : ge = 8
                · have b3 : (ge == 8) = true := by simp [h3]
                  by_cases h4 : gp = []
                  · have b4 : ((gp.length : Int) == 0) = true := by simp [h4]
                    have HE : Hid (cc = true) := by show _ = _; rw [← HCC.out]; simp [h1, h2, h3, h4]
                    clear h1 h2 h3 h4
                    go_wp2_with fail
                    go_meet
                    exact ⟨by rw [HE.out], rfl⟩
                  · have b4 : ((gp.length : Int) == 0) = false := by
                      rw [beq_eq_false_iff_ne]
                      have := List.length_pos_iff.2 h4
                      omega
                    have HE : Hid (cc = false) := by show _ = _; rw [← HCC.out]; simp [h4]
                    clear h1 h2 h3 h4
                    go_wp2_with fail
                    go_meet
                    exact ⟨by rw [HE.out], rfl⟩
                · have b3 : (ge == 8) = false := by simpa using h3
                  have HE : Hid (cc = false) := by show _ = _; rw [← HCC.out]; simp [h3]
                  clear h1 h2 h3
                  go_wp2_with fail
                  go_meet
                  exact ⟨by rw [HE.out], rfl⟩
              · have b2 : (fn.toList == v.toList) = false := str_neq h2
                have HE : Hid (cc = false) := by show _ = _; rw [← HCC.out]; simp [h2]
                clear h1 h2
                go_wp2_with fail
                go_meet
                exact ⟨by rw [HE.out], rfl⟩
            · have b1 : (gt == (i : Int)) = false := by simpa using h1
              have HE : Hid (cc = false) := by show _ = _; rw [← HCC.out]; simp [h1]
              clear h1
              go_wp2_with fail
              go_meet
              exact ⟨by rw [HE.out], rfl⟩
          obtain ⟨rfl, hwD⟩ := hcut
          rw [hwD]
          clear hwD z1 z2 z3 z4 z9
          go_upto_if 148 with fail
          go_cut [] (fun w' => Below D9.heap.size D9 w')
          case first =>
            cases cc with
            | true =>
              have hcc := HCC.out
              simp only [Bool.and_eq_true, decide_eq_true_eq] at hcc
              have hvf : v ≠ freshS := fun e => memB_false.1 HU3.out (by rw [← e]; exact HVM.out)
              have HGN : Hid (gn = freshS ∨ gn = v) := by
                rcases HE4.out with h | h
                · exact .inr (h.trans hcc.2.1)
                · exact .inl h.2.2.2.2
              clear hcc
              go_wp2_with fail
              refine wp_region_held_drew (S := fun w' => Below D9.heap.size D9 w') (by kernel_rfl) ((Below.refl _ _).drew) (fun hHeld => ?_)
              generalize hwd : World.drew _ = v0 at hHeld ⊢
              clear hwd
              have HHD := Lib.hid hHeld
              refine wpAnyH_take (i := 0) (v := .slice (some ⟨g2, 0, none⟩) n2 cM) rfl (by kernel_rfl) (by kernel_rfl) (by kernel_rfl) (fun _ _ _ h => h) (Or.inl ⟨by rfl, ?_⟩) (by assumption) ?_
              · intro w' hSw; go_simp
              (try simp only [Act.put, List.getElem_toArray, List.getElem_cons_zero, List.setIfInBounds_toArray, List.set_cons_zero, List.set_cons_succ])
              refine wpAnyH_take (i := 1) (v := .int .i64 (m : Int)) rfl (by kernel_rfl) (by kernel_rfl) (by kernel_rfl) (fun _ _ _ h => h) (Or.inl ⟨by rfl, ?_⟩) (by assumption) ?_
              · intro w' hSw; go_simp
              (try simp only [Act.put, List.getElem_toArray, List.getElem_cons_zero, List.getElem_cons_succ, List.setIfInBounds_toArray, List.set_cons_zero, List.set_cons_succ])
              refine wpAnyH_take (i := 2) (v := .pointer (some ⟨g2, m * 4, none⟩)) rfl (by kernel_rfl) (by kernel_rfl) (by kernel_rfl) (fun _ _ _ h => h) (Or.inl ⟨by rfl, ?_⟩) (by assumption) ?_
              · intro w' hSw; go_simp
              (try simp only [Act.put, List.getElem_toArray, List.getElem_cons_zero, List.getElem_cons_succ, List.setIfInBounds_toArray, List.set_cons_zero, List.set_cons_succ])
              refine wpAnyH_take (i := 3) (v := .pointer (some ⟨g2, m * 4 + 3, none⟩)) rfl (by kernel_rfl) (by kernel_rfl) (by kernel_rfl) (fun _ _ _ h => h) (Or.inl ⟨by rfl, ?_⟩) (by assumption) ?_
              · intro w' hSw; go_simp
              (try simp only [Act.put, List.getElem_toArray, List.getElem_cons_zero, List.getElem_cons_succ, List.setIfInBounds_toArray, List.set_cons_zero, List.set_cons_succ])
              refine wpAnyH_take (i := 4) (v := .string gn) rfl (by kernel_rfl) (by kernel_rfl) (by kernel_rfl) (fun _ _ _ h => h) (Or.inl ⟨by rfl, ?_⟩) (by assumption) ?_
              · intro w' hSw; obtain ⟨z1, z2, z3, z4, z5, z6, z7, z8, z9⟩ := HS1.out _ hSw; go_simp
              (try simp only [Act.put, List.getElem_toArray, List.getElem_cons_zero, List.getElem_cons_succ, List.setIfInBounds_toArray, List.set_cons_zero, List.set_cons_succ])
              by_cases h5 : gn = freshS
              · have b5 : gn.toList = [122, 122, 122, 102, 114, 101, 115, 104] := by rw [← fresh_list, h5]
                clear h5
                refine wpAnyH_take (i := 5) (v := .bool false) rfl (by kernel_rfl) (by kernel_rfl) (by kernel_rfl) (fun _ _ _ h => h) (Or.inl ⟨by rfl, ?_⟩) (by assumption) ?_
                · intro w' hSw; go_simp
                (try simp only [Act.put, List.getElem_toArray, List.getElem_cons_zero, List.getElem_cons_succ, List.setIfInBounds_toArray, List.set_cons_zero, List.set_cons_succ])
                refine wpAnyH_take (i := 6) (v := .bool false) rfl (by kernel_rfl) (by kernel_rfl) (by kernel_rfl) (fun _ _ _ h => h) (Or.inl ⟨by rfl, ?_⟩) (by assumption) ?_
                · intro w' hSw; go_simp
                (try simp only [Act.put, List.getElem_toArray, List.getElem_cons_zero, List.getElem_cons_succ, List.setIfInBounds_toArray, List.set_cons_zero, List.set_cons_succ])
                refine wpAnyH_take (i := 7) (v := undef) rfl (by kernel_rfl) (by kernel_rfl) (by kernel_rfl) (fun _ _ _ h => h) (Or.inr ⟨by rfl, rfl⟩) (by assumption) ?_
                (try simp only [Act.put, List.getElem_toArray, List.getElem_cons_zero, List.getElem_cons_succ, List.setIfInBounds_toArray, List.set_cons_zero, List.set_cons_succ])
                refine wpAnyH_take (i := 8) (v := undef) rfl (by kernel_rfl) (by kernel_rfl) (by kernel_rfl) (fun _ _ _ h => h) (Or.inr ⟨by rfl, rfl⟩) (by assumption) ?_
                (try simp only [Act.put, List.getElem_toArray, List.getElem_cons_zero, List.getElem_cons_succ, List.setIfInBounds_toArray, List.set_cons_zero, List.set_cons_succ])
                refine wpAnyH_take (i := 9) (v := undef) rfl (by kernel_rfl) (by kernel_rfl) (by kernel_rfl) (fun _ _ _ h => h) (Or.inr ⟨by rfl, rfl⟩) (by assumption) ?_
                (try simp only [Act.put, List.getElem_toArray, List.getElem_cons_zero, List.getElem_cons_succ, List.setIfInBounds_toArray, List.set_cons_zero, List.set_cons_succ])
                refine wpAnyH_take (i := 10) (v := undef) rfl (by kernel_rfl) (by kernel_rfl) (by kernel_rfl) (fun _ _ _ h => h) (Or.inr ⟨by rfl, rfl⟩) (by assumption) ?_
                (try simp only [Act.put, List.getElem_toArray, List.getElem_cons_zero, List.getElem_cons_succ, List.setIfInBounds_toArray, List.set_cons_zero, List.set_cons_succ])
                refine wpAnyH_take (i := 11) (v := undef) rfl (by kernel_rfl) (by kernel_rfl) (by kernel_rfl) (fun _ _ _ h => h) (Or.inr ⟨by rfl, rfl⟩) (by assumption) ?_
                (try simp only [Act.put, List.getElem_toArray, List.getElem_cons_zero, List.getElem_cons_succ, List.setIfInBounds_toArray, List.set_cons_zero, List.set_cons_succ])
                refine wpAnyH_take (i := 12) (v := undef) rfl (by kernel_rfl) (by kernel_rfl) (by kernel_rfl) (fun _ _ _ h => h) (Or.inr ⟨by rfl, rfl⟩) (by assumption) ?_
                (try simp only [Act.put, List.getElem_toArray, List.getElem_cons_zero, List.getElem_cons_succ, List.setIfInBounds_toArray, List.set_cons_zero, List.set_cons_succ])
                refine wpAnyH_take (i := 13) (v := undef) rfl (by kernel_rfl) (by kernel_rfl) (by kernel_rfl) (fun _ _ _ h => h) (Or.inr ⟨by rfl, rfl⟩) (by assumption) ?_
                (try simp only [Act.put, List.getElem_toArray, List.getElem_cons_zero, List.getElem_cons_succ, List.setIfInBounds_toArray, List.set_cons_zero, List.set_cons_succ])
                refine wpAnyH_take (i := 14) (v := .bool false) rfl (by kernel_rfl) (by kernel_rfl) (by kernel_rfl) (fun _ _ _ h => h) (Or.inl ⟨by rfl, ?_⟩) (by assumption) ?_
                · intro w' hSw; go_simp
                (try simp only [Act.put, List.getElem_toArray, List.getElem_cons_zero, List.getElem_cons_succ, List.setIfInBounds_toArray, List.set_cons_zero, List.set_cons_succ])
                refine wpAnyH_done (by kernel_rfl) ?_ _
                clear hHeld
                go_wp2_with fail
                go_meet
                exact HHD.out
              · have h6 : gn = v := HGN.out.resolve_left h5
                have b5 : ¬ gn.toList = [122, 122, 122, 102, 114, 101, 115, 104] := by rw [← fresh_list]; exact beq_eq_false_iff_ne.1 (str_neq h5)
                have H6 := Lib.hid h6
                clear h5 h6
                refine wpAnyH_take (i := 5) (v := .bool true) rfl (by kernel_rfl) (by kernel_rfl) (by kernel_rfl) (fun _ _ _ h => h) (Or.inl ⟨by rfl, ?_⟩) (by assumption) ?_
                · intro w' hSw; go_simp
                (try simp only [Act.put, List.getElem_toArray, List.getElem_cons_zero, List.getElem_cons_succ, List.setIfInBounds_toArray, List.set_cons_zero, List.set_cons_succ])
                refine wpAnyH_take (i := 6) (v := .bool true) rfl (by kernel_rfl) (by kernel_rfl) (by kernel_rfl) (fun _ _ _ h => h) (Or.inl ⟨by rfl, ?_⟩) (by assumption) ?_
                · intro w' hSw; go_simp
                (try simp only [Act.put, List.getElem_toArray, List.getElem_cons_zero, List.getElem_cons_succ, List.setIfInBounds_toArray, List.set_cons_zero, List.set_cons_succ])
                have b6 : gn.toList = v.toList := by rw [H6.out]
                refine wpAnyH_take (i := 7) (v := .slice (some ⟨g2, 0, none⟩) n2 cM) rfl (by kernel_rfl) (by kernel_rfl) (by kernel_rfl) (fun _ _ _ h => h) (Or.inl ⟨by rfl, ?_⟩) (by assumption) ?_
                · intro w' hSw; go_simp
                (try simp only [Act.put, List.getElem_toArray, List.getElem_cons_zero, List.getElem_cons_succ, List.setIfInBounds_toArray, List.set_cons_zero, List.set_cons_succ])
                refine wpAnyH_take (i := 8) (v := .int .i64 (m : Int)) rfl (by kernel_rfl) (by kernel_rfl) (by kernel_rfl) (fun _ _ _ h => h) (Or.inl ⟨by rfl, ?_⟩) (by assumption) ?_
                · intro w' hSw; go_simp
                (try simp only [Act.put, List.getElem_toArray, List.getElem_cons_zero, List.getElem_cons_succ, List.setIfInBounds_toArray, List.set_cons_zero, List.set_cons_succ])
                refine wpAnyH_take (i := 9) (v := .pointer (some ⟨g2, m * 4, none⟩)) rfl (by kernel_rfl) (by kernel_rfl) (by kernel_rfl) (fun _ _ _ h => h) (Or.inl ⟨by rfl, ?_⟩) (by assumption) ?_
                · intro w' hSw; go_simp
                (try simp only [Act.put, List.getElem_toArray, List.getElem_cons_zero, List.getElem_cons_succ, List.setIfInBounds_toArray, List.set_cons_zero, List.set_cons_succ])
                refine wpAnyH_take (i := 10) (v := .pointer (some ⟨g2, m * 4 + 3, none⟩)) rfl (by kernel_rfl) (by kernel_rfl) (by kernel_rfl) (fun _ _ _ h => h) (Or.inl ⟨by rfl, ?_⟩) (by assumption) ?_
                · intro w' hSw; go_simp
                (try simp only [Act.put, List.getElem_toArray, List.getElem_cons_zero, List.getElem_cons_succ, List.setIfInBounds_toArray, List.set_cons_zero, List.set_cons_succ])
                refine wpAnyH_take (i := 11) (v := .string gn) rfl (by kernel_rfl) (by kernel_rfl) (by kernel_rfl) (fun _ _ _ h => h) (Or.inl ⟨by rfl, ?_⟩) (by assumption) ?_
                · intro w' hSw; obtain ⟨z1, z2, z3, z4, z5, z6, z7, z8, z9⟩ := HS1.out _ hSw; go_simp
                (try simp only [Act.put, List.getElem_toArray, List.getElem_cons_zero, List.getElem_cons_succ, List.setIfInBounds_toArray, List.set_cons_zero, List.set_cons_succ])
                refine wpAnyH_take (i := 12) (v := .string v) rfl (by kernel_rfl) (by kernel_rfl) (by kernel_rfl) (fun _ _ _ h => h) (Or.inl ⟨by rfl, ?_⟩) (by assumption) ?_
                · intro w' hSw; obtain ⟨z1, z2, z3, z4, z5, z6, z7, z8, z9⟩ := HS1.out _ hSw; go_simp
                (try simp only [Act.put, List.getElem_toArray, List.getElem_cons_zero, List.getElem_cons_succ, List.setIfInBounds_toArray, List.set_cons_zero, List.set_cons_succ])
                refine wpAnyH_take (i := 13) (v := .bool false) rfl (by kernel_rfl) (by kernel_rfl) (by kernel_rfl) (fun _ _ _ h => h) (Or.inl ⟨by rfl, ?_⟩) (by assumption) ?_
                · intro w' hSw; go_simp
                (try simp only [Act.put, List.getElem_toArray, List.getElem_cons_zero, List.getElem_cons_succ, List.setIfInBounds_toArray, List.set_cons_zero, List.set_cons_succ])
                refine wpAnyH_take (i := 14) (v := .bool false) rfl (by kernel_rfl) (by kernel_rfl) (by kernel_rfl) (fun _ _ _ h => h) (Or.inl ⟨by rfl, ?_⟩) (by assumption) ?_
                · intro w' hSw; go_simp
                (try simp only [Act.put, List.getElem_toArray, List.getElem_cons_zero, List.getElem_cons_succ, List.setIfInBounds_toArray, List.set_cons_zero, List.set_cons_succ])
                refine wpAnyH_done (by kernel_rfl) ?_ _
                clear hHeld
                go_wp2_with fail
                go_meet
                exact HHD.out
            | false =>
              have HGN : Hid (gn = fn) := by
                rcases HE4.out with h | ⟨h1, h2, h3, h4, _⟩
                · exact h
                · have hcc := HCC.out
                  rw [decide_eq_true h1, decide_eq_true h2, decide_eq_true h3, decide_eq_true h4] at hcc
                  cases hcc
              have b5 : gn.toList = fn.toList := by rw [HGN.out]
              go_wp2_with fail
              refine wp_region_held_drew (S := fun w' => Below D9.heap.size D9 w') (by kernel_rfl) ((Below.refl _ _).drew) (fun hHeld => ?_)
              generalize hwd : World.drew _ = v0 at hHeld ⊢
              clear hwd
              have HHD := Lib.hid hHeld
              refine wpAnyH_take (i := 0) (v := .slice (some ⟨g2, 0, none⟩) n2 cM) rfl (by kernel_rfl) (by kernel_rfl) (by kernel_rfl) (fun _ _ _ h => h) (Or.inl ⟨by rfl, ?_⟩) (by assumption) ?_
              · intro w' hSw; go_simp
              (try simp only [Act.put, List.getElem_toArray, List.getElem_cons_zero, List.setIfInBounds_toArray, List.set_cons_zero, List.set_cons_succ])
              refine wpAnyH_take (i := 1) (v := .int .i64 (m : Int)) rfl (by kernel_rfl) (by kernel_rfl) (by kernel_rfl) (fun _ _ _ h => h) (Or.inl ⟨by rfl, ?_⟩) (by assumption) ?_
              · intro w' hSw; go_simp
              (try simp only [Act.put, List.getElem_toArray, List.getElem_cons_zero, List.getElem_cons_succ, List.setIfInBounds_toArray, List.set_cons_zero, List.set_cons_succ])
              refine wpAnyH_take (i := 2) (v := .pointer (some ⟨g2, m * 4, none⟩)) rfl (by kernel_rfl) (by kernel_rfl) (by kernel_rfl) (fun _ _ _ h => h) (Or.inl ⟨by rfl, ?_⟩) (by assumption) ?_
              · intro w' hSw; go_simp
              (try simp only [Act.put, List.getElem_toArray, List.getElem_cons_zero, List.getElem_cons_succ, List.setIfInBounds_toArray, List.set_cons_zero, List.set_cons_succ])
              refine wpAnyH_take (i := 3) (v := .pointer (some ⟨g2, m * 4 + 3, none⟩)) rfl (by kernel_rfl) (by kernel_rfl) (by kernel_rfl) (fun _ _ _ h => h) (Or.inl ⟨by rfl, ?_⟩) (by assumption) ?_
              · intro w' hSw; go_simp
              (try simp only [Act.put, List.getElem_toArray, List.getElem_cons_zero, List.getElem_cons_succ, List.setIfInBounds_toArray, List.set_cons_zero, List.set_cons_succ])
              refine wpAnyH_take (i := 4) (v := .string gn) rfl (by kernel_rfl) (by kernel_rfl) (by kernel_rfl) (fun _ _ _ h => h) (Or.inl ⟨by rfl, ?_⟩) (by assumption) ?_
              · intro w' hSw; obtain ⟨z1, z2, z3, z4, z5, z6, z7, z8, z9⟩ := HS1.out _ hSw; go_simp
              (try simp only [Act.put, List.getElem_toArray, List.getElem_cons_zero, List.getElem_cons_succ, List.setIfInBounds_toArray, List.set_cons_zero, List.set_cons_succ])
              refine wpAnyH_take (i := 5) (v := .pointer (some ⟨wr.heap.size, 3, none⟩)) rfl (by kernel_rfl) (by kernel_rfl) (by kernel_rfl) (fun _ _ _ h => h) (Or.inl ⟨by rfl, ?_⟩) (by assumption) ?_
              · intro w' hSw; go_simp
              (try simp only [Act.put, List.getElem_toArray, List.getElem_cons_zero, List.getElem_cons_succ, List.setIfInBounds_toArray, List.set_cons_zero, List.set_cons_succ])
              refine wpAnyH_take (i := 6) (v := .string fn) rfl (by kernel_rfl) (by kernel_rfl) (by kernel_rfl) (fun _ _ _ h => h) (Or.inl ⟨by rfl, ?_⟩) (by assumption) ?_
              · intro w' hSw; obtain ⟨z1, z2, z3, z4, z5, z6, z7, z8, z9⟩ := HS1.out _ hSw; go_simp
              (try simp only [Act.put, List.getElem_toArray, List.getElem_cons_zero, List.getElem_cons_succ, List.setIfInBounds_toArray, List.set_cons_zero, List.set_cons_succ])
              refine wpAnyH_take (i := 7) (v := .bool false) rfl (by kernel_rfl) (by kernel_rfl) (by kernel_rfl) (fun _ _ _ h => h) (Or.inl ⟨by rfl, ?_⟩) (by assumption) ?_
              · intro w' hSw; go_simp
              (try simp only [Act.put, List.getElem_toArray, List.getElem_cons_zero, List.getElem_cons_succ, List.setIfInBounds_toArray, List.set_cons_zero, List.set_cons_succ])
              refine wpAnyH_done (by kernel_rfl) ?_ _
              clear hHeld
              go_wp2_with fail
              go_meet
              exact HHD.out
          obtain ⟨wy, hwy⟩ : ∃ wy : World, wy = wc := ⟨_, rfl⟩
          rw [← hwy] at hcut ⊢
          have HBC := Lib.hid hcut
          clear hcut hwy
          have hne1 : (gt != gt) = false := by simp
          have hne2 : (ge != ge) = false := by simp
          go_wp2_with fail
          refine wp_region_held_drew (S := fun w' => Below wy.heap.size wy w') (by kernel_rfl) ((Below.refl _ _).drew) (fun hHeld => ?_)
          generalize hwd : World.drew _ = v0 at hHeld ⊢
          clear hwd
          refine wpAnyH_take (i := 0) (v := .slice (some ⟨g2, 0, none⟩) n2 cM) rfl (by kernel_rfl) (by kernel_rfl) (by kernel_rfl) (fun _ _ _ h => h) (Or.inl ⟨by rfl, ?_⟩) (by assumption) ?_
          · intro w' hSw; go_simp
          (try simp only [Act.put, List.getElem_toArray, List.getElem_cons_zero, List.setIfInBounds_toArray, List.set_cons_zero, List.set_cons_succ])
          refine wpAnyH_take (i := 1) (v := .int .i64 (m : Int)) rfl (by kernel_rfl) (by kernel_rfl) (by kernel_rfl) (fun _ _ _ h => h) (Or.inl ⟨by rfl, ?_⟩) (by assumption) ?_
          · intro w' hSw; go_simp
          (try simp only [Act.put, List.getElem_toArray, List.getElem_cons_zero, List.getElem_cons_succ, List.setIfInBounds_toArray, List.set_cons_zero, List.set_cons_succ])
          refine wpAnyH_take (i := 2) (v := .pointer (some ⟨g2, m * 4, none⟩)) rfl (by kernel_rfl) (by kernel_rfl) (by kernel_rfl) (fun _ _ _ h => h) (Or.inl ⟨by rfl, ?_⟩) (by assumption) ?_
          · intro w' hSw; go_simp
          (try simp only [Act.put, List.getElem_toArray, List.getElem_cons_zero, List.getElem_cons_succ, List.setIfInBounds_toArray, List.set_cons_zero, List.set_cons_succ])
          refine wpAnyH_take (i := 3) (v := .pointer (some ⟨g2, m * 4, none⟩)) rfl (by kernel_rfl) (by kernel_rfl) (by kernel_rfl) (fun _ _ _ h => h) (Or.inl ⟨by rfl, ?_⟩) (by assumption) ?_
          · intro w' hSw; go_simp
          (try simp only [Act.put, List.getElem_toArray, List.getElem_cons_zero, List.getElem_cons_succ, List.setIfInBounds_toArray, List.set_cons_zero, List.set_cons_succ])
          refine wpAnyH_take (i := 4) (v := .int .i64 gt) rfl (by kernel_rfl) (by kernel_rfl) (by kernel_rfl) (fun _ _ _ h => h) (Or.inl ⟨by rfl, ?_⟩) (by assumption) ?_
          · intro w' hSw; obtain ⟨z1, z2, z3, z4, z5, z6, z7, z8, z9⟩ := HS1.out _ (mem_then HBC.out hSw); go_simp
          (try simp only [Act.put, List.getElem_toArray, List.getElem_cons_zero, List.getElem_cons_succ, List.setIfInBounds_toArray, List.set_cons_zero, List.set_cons_succ])
          refine wpAnyH_take (i := 5) (v := .pointer (some ⟨wr.heap.size, 0, none⟩)) rfl (by kernel_rfl) (by kernel_rfl) (by kernel_rfl) (fun _ _ _ h => h) (Or.inl ⟨by rfl, ?_⟩) (by assumption) ?_
          · intro w' hSw; go_simp
          (try simp only [Act.put, List.getElem_toArray, List.getElem_cons_zero, List.getElem_cons_succ, List.setIfInBounds_toArray, List.set_cons_zero, List.set_cons_succ])
          refine wpAnyH_take (i := 6) (v := .int .i64 gt) rfl (by kernel_rfl) (by kernel_rfl) (by kernel_rfl) (fun _ _ _ h => h) (Or.inl ⟨by rfl, ?_⟩) (by assumption) ?_
          · intro w' hSw; obtain ⟨z1, z2, z3, z4, z5, z6, z7, z8, z9⟩ := HS1.out _ (mem_then HBC.out hSw); go_simp
          (try simp only [Act.put, List.getElem_toArray, List.getElem_cons_zero, List.getElem_cons_succ, List.setIfInBounds_toArray, List.set_cons_zero, List.set_cons_succ])
          refine wpAnyH_take (i := 7) (v := .bool false) rfl (by kernel_rfl) (by kernel_rfl) (by kernel_rfl) (fun _ _ _ h => h) (Or.inl ⟨by rfl, ?_⟩) (by assumption) ?_
          · intro w' hSw; go_simp
          (try simp only [Act.put, List.getElem_toArray, List.getElem_cons_zero, List.getElem_cons_succ, List.setIfInBounds_toArray, List.set_cons_zero, List.set_cons_succ])
          refine wpAnyH_take (i := 8) (v := .bool false) rfl (by kernel_rfl) (by kernel_rfl) (by kernel_rfl) (fun _ _ _ h => h) (Or.inl ⟨by rfl, ?_⟩) (by assumption) ?_
          · intro w' hSw; go_simp
          (try simp only [Act.put, List.getElem_toArray, List.getElem_cons_zero, List.getElem_cons_succ, List.setIfInBounds_toArray, List.set_cons_zero, List.set_cons_succ])
          refine wpAnyH_take (i := 9) (v := .slice (some ⟨g2, 0, none⟩) n2 cM) rfl (by kernel_rfl) (by kernel_rfl) (by kernel_rfl) (fun _ _ _ h => h) (Or.inl ⟨by rfl, ?_⟩) (by assumption) ?_
          · intro w' hSw; go_simp
          (try simp only [Act.put, List.getElem_toArray, List.getElem_cons_zero, List.getElem_cons_succ, List.setIfInBounds_toArray, List.set_cons_zero, List.set_cons_succ])
          refine wpAnyH_take (i := 10) (v := .int .i64 (m : Int)) rfl (by kernel_rfl) (by kernel_rfl) (by kernel_rfl) (fun _ _ _ h => h) (Or.inl ⟨by rfl, ?_⟩) (by assumption) ?_
          · intro w' hSw; go_simp
          (try simp only [Act.put, List.getElem_toArray, List.getElem_cons_zero, List.getElem_cons_succ, List.setIfInBounds_toArray, List.set_cons_zero, List.set_cons_succ])
          refine wpAnyH_take (i := 11) (v := .pointer (some ⟨g2, m * 4, none⟩)) rfl (by kernel_rfl) (by kernel_rfl) (by kernel_rfl) (fun _ _ _ h => h) (Or.inl ⟨by rfl, ?_⟩) (by assumption) ?_
          · intro w' hSw; go_simp
          (try simp only [Act.put, List.getElem_toArray, List.getElem_cons_zero, List.getElem_cons_succ, List.setIfInBounds_toArray, List.set_cons_zero, List.set_cons_succ])
          refine wpAnyH_take (i := 12) (v := .pointer (some ⟨g2, m * 4 + 2, none⟩)) rfl (by kernel_rfl) (by kernel_rfl) (by kernel_rfl) (fun _ _ _ h => h) (Or.inl ⟨by rfl, ?_⟩) (by assumption) ?_
          · intro w' hSw; go_simp
          (try simp only [Act.put, List.getElem_toArray, List.getElem_cons_zero, List.getElem_cons_succ, List.setIfInBounds_toArray, List.set_cons_zero, List.set_cons_succ])
          refine wpAnyH_take (i := 13) (v := .int .i64 ge) rfl (by kernel_rfl) (by kernel_rfl) (by kernel_rfl) (fun _ _ _ h => h) (Or.inl ⟨by rfl, ?_⟩) (by assumption) ?_
          · intro w' hSw; obtain ⟨z1, z2, z3, z4, z5, z6, z7, z8, z9⟩ := HS1.out _ (mem_then HBC.out hSw); go_simp
          (try simp only [Act.put, List.getElem_toArray, List.getElem_cons_zero, List.getElem_cons_succ, List.setIfInBounds_toArray, List.set_cons_zero, List.set_cons_succ])
          refine wpAnyH_take (i := 14) (v := .pointer (some ⟨wr.heap.size, 2, none⟩)) rfl (by kernel_rfl) (by kernel_rfl) (by kernel_rfl) (fun _ _ _ h => h) (Or.inl ⟨by rfl, ?_⟩) (by assumption) ?_
          · intro w' hSw; go_simp
          (try simp only [Act.put, List.getElem_toArray, List.getElem_cons_zero, List.getElem_cons_succ, List.setIfInBounds_toArray, List.set_cons_zero, List.set_cons_succ])
          refine wpAnyH_take (i := 15) (v := .int .i64 ge) rfl (by kernel_rfl) (by kernel_rfl) (by kernel_rfl) (fun _ _ _ h => h) (Or.inl ⟨by rfl, ?_⟩) (by assumption) ?_
          · intro w' hSw; obtain ⟨z1, z2, z3, z4, z5, z6, z7, z8, z9⟩ := HS1.out _ (mem_then HBC.out hSw); go_simp
          (try simp only [Act.put, List.getElem_toArray, List.getElem_cons_zero, List.getElem_cons_succ, List.setIfInBounds_toArray, List.set_cons_zero, List.set_cons_succ])
          refine wpAnyH_take (i := 16) (v := .bool false) rfl (by kernel_rfl) (by kernel_rfl) (by kernel_rfl) (fun _ _ _ h => h) (Or.inl ⟨by rfl, ?_⟩) (by assumption) ?_
          · intro w' hSw; go_simp
          (try simp only [Act.put, List.getElem_toArray, List.getElem_cons_zero, List.getElem_cons_succ, List.setIfInBounds_toArray, List.set_cons_zero, List.set_cons_succ])
          refine wpAnyH_take (i := 17) (v := .bool false) rfl (by kernel_rfl) (by kernel_rfl) (by kernel_rfl) (fun _ _ _ h => h) (Or.inl ⟨by rfl, ?_⟩) (by assumption) ?_
          · intro w' hSw; go_simp
          (try simp only [Act.put, List.getElem_toArray, List.getElem_cons_zero, List.getElem_cons_succ, List.setIfInBounds_toArray, List.set_cons_zero, List.set_cons_succ])
          refine wpAnyH_take (i := 18) (v := .bool false) rfl (by kernel_rfl) (by kernel_rfl) (by kernel_rfl) (fun _ _ _ h => h) (Or.inl ⟨by rfl, ?_⟩) (by assumption) ?_
          · intro w' hSw; go_simp
          (try simp only [Act.put, List.getElem_toArray, List.getElem_cons_zero, List.getElem_cons_succ, List.setIfInBounds_toArray, List.set_cons_zero, List.set_cons_succ])
          refine wpAnyH_take (i := 19) (v := .slice (some ⟨g2, 0, none⟩) n2 cM) rfl (by kernel_rfl) (by kernel_rfl) (by kernel_rfl) (fun _ _ _ h => h) (Or.inl ⟨by rfl, ?_⟩) (by assumption) ?_
          · intro w' hSw; go_simp
          (try simp only [Act.put, List.getElem_toArray, List.getElem_cons_zero, List.getElem_cons_succ, List.setIfInBounds_toArray, List.set_cons_zero, List.set_cons_succ])
          refine wpAnyH_take (i := 20) (v := .int .i64 (m : Int)) rfl (by kernel_rfl) (by kernel_rfl) (by kernel_rfl) (fun _ _ _ h => h) (Or.inl ⟨by rfl, ?_⟩) (by assumption) ?_
          · intro w' hSw; go_simp
          (try simp only [Act.put, List.getElem_toArray, List.getElem_cons_zero, List.getElem_cons_succ, List.setIfInBounds_toArray, List.set_cons_zero, List.set_cons_succ])
          refine wpAnyH_take (i := 21) (v := .pointer (some ⟨g2, m * 4, none⟩)) rfl (by kernel_rfl) (by kernel_rfl) (by kernel_rfl) (fun _ _ _ h => h) (Or.inl ⟨by rfl, ?_⟩) (by assumption) ?_
          · intro w' hSw; go_simp
          (try simp only [Act.put, List.getElem_toArray, List.getElem_cons_zero, List.getElem_cons_succ, List.setIfInBounds_toArray, List.set_cons_zero, List.set_cons_succ])
          refine wpAnyH_take (i := 22) (v := .pointer (some ⟨g2, m * 4 + 1, none⟩)) rfl (by kernel_rfl) (by kernel_rfl) (by kernel_rfl) (fun _ _ _ h => h) (Or.inl ⟨by rfl, ?_⟩) (by assumption) ?_
          · intro w' hSw; go_simp
          (try simp only [Act.put, List.getElem_toArray, List.getElem_cons_zero, List.getElem_cons_succ, List.setIfInBounds_toArray, List.set_cons_zero, List.set_cons_succ])
          refine wpAnyH_take (i := 23) (v := .slice qa gp.length qc) rfl (by kernel_rfl) (by kernel_rfl) (by kernel_rfl) (fun _ _ _ h => h) (Or.inl ⟨by rfl, ?_⟩) (by assumption) ?_
          · intro w' hSw; obtain ⟨z1, z2, z3, z4, z5, z6, z7, z8, z9⟩ := HS1.out _ (mem_then HBC.out hSw); go_simp
          (try simp only [Act.put, List.getElem_toArray, List.getElem_cons_zero, List.getElem_cons_succ, List.setIfInBounds_toArray, List.set_cons_zero, List.set_cons_succ])
          refine wpAnyH_take (i := 24) (v := .pointer (some ⟨wr.heap.size, 1, none⟩)) rfl (by kernel_rfl) (by kernel_rfl) (by kernel_rfl) (fun _ _ _ h => h) (Or.inl ⟨by rfl, ?_⟩) (by assumption) ?_
          · intro w' hSw; go_simp
          (try simp only [Act.put, List.getElem_toArray, List.getElem_cons_zero, List.getElem_cons_succ, List.setIfInBounds_toArray, List.set_cons_zero, List.set_cons_succ])
          refine wpAnyH_take (i := 25) (v := .slice fa gp.length fc) rfl (by kernel_rfl) (by kernel_rfl) (by kernel_rfl) (fun _ _ _ h => h) (Or.inl ⟨by rfl, ?_⟩) (by assumption) ?_
          · intro w' hSw; obtain ⟨z1, z2, z3, z4, z5, z6, z7, z8, z9⟩ := HS1.out _ (mem_then HBC.out hSw); go_simp
          (try simp only [Act.put, List.getElem_toArray, List.getElem_cons_zero, List.getElem_cons_succ, List.setIfInBounds_toArray, List.set_cons_zero, List.set_cons_succ])
          refine wpAnyH_ready (rs := [26]) (by kernel_rfl) (by simp) (AllReadyH.cons rfl (fun K hK => ?_) AllReadyH.nil)
          go_simp
          refine (ieq_any gp gp _ qa fa qc fc (HQRD.out.below (mem_then HBC.out hHeld)) (HFRD.out.below (mem_then HBC.out hHeld))).mono ?_
          rintro e w19 ⟨rfl, hb19⟩
          have HB19 := Lib.hid (mem_then hHeld hb19)
          rw [show decide (gp = gp) = true from decide_eq_true rfl]
          clear hb19
          refine hK.out _ _ (HB19.out) (fun hHeld => ?_)
          clear hK K
          rename_i hOld
          clear hOld
          (try simp only [Act.put, List.getElem_toArray, List.getElem_cons_zero, List.getElem_cons_succ, List.setIfInBounds_toArray, List.set_cons_zero, List.set_cons_succ])
          refine wpAnyH_take (i := 27) (v := .bool false) rfl (by kernel_rfl) (by kernel_rfl) (by kernel_rfl) (fun _ _ _ h => h) (Or.inl ⟨by rfl, ?_⟩) (by assumption) ?_
          · intro w' hSw; go_simp
          (try simp only [Act.put, List.getElem_toArray, List.getElem_cons_zero, List.getElem_cons_succ, List.setIfInBounds_toArray, List.set_cons_zero, List.set_cons_succ])
          refine wpAnyH_take (i := 28) (v := .bool false) rfl (by kernel_rfl) (by kernel_rfl) (by kernel_rfl) (fun _ _ _ h => h) (Or.inl ⟨by rfl, ?_⟩) (by assumption) ?_
          · intro w' hSw; go_simp
          (try simp only [Act.put, List.getElem_toArray, List.getElem_cons_zero, List.getElem_cons_succ, List.setIfInBounds_toArray, List.set_cons_zero, List.set_cons_succ])
          refine wpAnyH_done (by kernel_rfl) ?_ _
          clear hHeld
          go_wp2_with fail
          go_roundw
          case rel => exact ⟨m + 1, by omega, by go_num, HBD.out.trans ((mem_then HBC.out HB19.out).mono HBD.out.size)⟩
          case measure => simp [intOf]; omega
        · obtain rfl : m = n2 := by omega
          have HEND := Lib.hid (HKZ.out _ (mem_then HB16.out HB.out)).1
          go_wp2_with fail
          go_ret
          exact ⟨rfl, HEND.out⟩
end Go.Proofs.YtnegdmhmhdojbaaDoor
