/-
  Contract of the reference (package ontimeref15): the paths of a tree.
-/
import Derived.Test.YtnegdmhmhdojbaaDoorRef15c
import Derived.Test.YtnegdmhmhdojbaaDoorChkVisit
import Derived.Test.YtnegdmhmhdojbaaDoorPathRowsT
namespace Go.Proofs.YtnegdmhmhdojbaaDoor
set_option linter.unusedVariables false
set_option linter.unusedSimpArgs false
open Go.RowKit
set_option maxRecDepth 100000
set_option maxHeartbeats 16000000

theorem ints_snoc (p : List Int) (i : Int) : ints (p ++ [i]) = ints p ++ [.int .i64 i] := by unfold ints; simp
theorem items_len : ∀ (t : Tree) (p : List Int), (t.items p).length = t.size := by
  intro t
  induction t using Tree.ind with
  | h t ih =>
    intro p
    rw [t.items_eq p, List.length_cons, concatTo_length, t.size_eq, Tree.sumTo_congr (fun i hi => ih i hi _)]
    omega
/-- the paths of a tree, from a path on -/
def pathsP (t : Tree) (p : List Int) : List (List Int) := (t.items p).map (·.1)
def pathsUp (t : Tree) (p : List Int) (j : Nat) : List (List Int) := p :: concatTo (fun i => pathsP (t.kid i) (p ++ [(i : Int)])) j
theorem pathsP_eq (t : Tree) (p : List Int) : pathsP t p = pathsUp t p t.len := by
  unfold pathsP pathsUp
  rw [t.items_eq p, List.map_cons, concatTo_map]
  rfl
theorem pathsUp_succ (t : Tree) (p : List Int) (j : Nat) : pathsUp t p (j + 1) = pathsUp t p j ++ pathsP (t.kid j) (p ++ [(j : Int)]) := by
  unfold pathsUp; rw [concatTo_succ]; rfl
theorem pathsUp_le (t : Tree) (p : List Int) (j : Nat) (hj : j < t.len) : (pathsUp t p j).length + (pathsP (t.kid j) (p ++ [(j : Int)])).length ≤ t.size := by
  obtain ⟨r, hr⟩ := concatTo_le (fun i => pathsP (t.kid i) (p ++ [(i : Int)])) (show j + 1 ≤ t.len by omega)
  have h1 : (pathsP t p).length = t.size := by unfold pathsP; rw [List.length_map, items_len]
  rw [pathsP_eq] at h1
  have h2 : pathsUp t p t.len = pathsUp t p (j + 1) ++ r := by unfold pathsUp; rw [hr]; rfl
  rw [h2, pathsUp_succ, List.length_append, List.length_append] at h1
  omega
/-- a row of paths that the call built; each path is a row of its own -/
structure PRowN (N B : Nat) (w : World) (v : Value) (L : List (List Int)) (vs : List Value) : Prop where
  own : w.ownsRow B 33 1 v L.length vs
  each : ∀ (i : Nat) (q : List Int) (u : Value), L[i]? = some q → vs[i]? = some u → PathV N w u q
section
variable {N B B' : Nat} {w w6 w9 : World} {v v6 v9 : Value} {L L6 : List (List Int)} {vs vs6 : List Value}
theorem PRowN.len (h : PRowN N B w v L vs) : vs.length = L.length := by have := h.own.1; omega
theorem PRowN.ones (h : PRowN N B w v L vs) : ∀ u ∈ vs, u.oneCell' = true := by
  intro u hu
  obtain ⟨i, hi, rfl⟩ := List.mem_iff_getElem.1 hu
  have hl := h.len
  have hp := h.each i _ _ (List.getElem?_eq_getElem (by omega)) (List.getElem?_eq_getElem hi)
  obtain ⟨a, c, e⟩ := own_val hp
  rw [e]
  rfl
theorem PRowN.keep (h : PRowN N B w v L vs) (hB : Below w.heap.size w w6) : PRowN N B w6 v L vs :=
  ⟨own_below h.own hB, fun i q u hq hu => own_below (h.each i q u hq hu) hB⟩
theorem PRowN.base (h : PRowN N B w v L vs) (hb : B' ≤ B) : PRowN N B' w v L vs := ⟨ownsRow_base h.own hb, h.each⟩
theorem pathv_grown {u : Value} {q : List Int} (hu : PathV N w6 u q) (ho : w6.ownsRow B 33 1 v L.length vs) (hg : w6.grownBy w9 v.ownBlock) : PathV N w9 u q := by
  refine own_keep hu (fun k hk hl => hg.block k hl ?_)
  rcases hu.2 with ⟨rfl, _⟩ | ⟨g', cap', cur, rfl, _, hc, _⟩
  · cases hk
  · have hk : g' = k := by injection hk
    subst hk
    exact fun e => own_other ho hc (by decide) e.symm
theorem PRowN.join (h : PRowN N B w v L vs) (hB : Below w.heap.size w w6) (h6 : PRowN N B' w6 v6 L6 vs6) (ho : w9.ownsRow B 33 1 v9 (L.length + L6.length) (vs ++ vs6)) (hg : w6.grownBy w9 v.ownBlock) : PRowN N B w9 v9 (L ++ L6) (vs ++ vs6) := by
  have hl := h.len
  have h1 := h.keep hB
  refine ⟨by rw [List.length_append]; exact ho, fun i q u hq hu => ?_⟩
  by_cases hi : i < L.length
  · rw [List.getElem?_append_left hi] at hq
    rw [List.getElem?_append_left (by omega)] at hu
    exact pathv_grown (h1.each i q u hq hu) h1.own hg
  · rw [List.getElem?_append_right (by omega)] at hq hu
    rw [hl] at hu
    exact pathv_grown (h6.each _ q u hq hu) h1.own hg
end
def RunEnd3 (lo n s : Nat) (P : Value → World → Prop) (a a' : Act) (w' : World) : Prop := ∃ (l : List Value) (v : Value), l.length = n ∧ a' = { a with tmps := (putAll a.tmps lo l).setIfInBounds s v } ∧ P v w'
theorem list14 {α : Type} {l : List α} (h : l.length = 14) : ∃ a0 a1 a2 a3 a4 a5 a6 a7 a8 a9 a10 a11 a12 a13, l = [a0, a1, a2, a3, a4, a5, a6, a7, a8, a9, a10, a11, a12, a13] := by
  match l, h with
  | [a0, a1, a2, a3, a4, a5, a6, a7, a8, a9, a10, a11, a12, a13], _ => exact ⟨a0, a1, a2, a3, a4, a5, a6, a7, a8, a9, a10, a11, a12, a13, rfl⟩
theorem paths15_any (N : Nat) : ∀ (t : Tree) (p : List Int) (atv : Value) (w : World) (a : Option Addr) (c : Nat), Rep w t a → PathV N w atv p → N ≤ w.heap.size → t.size ≤ 100000 → p.length + t.depth ≤ 10000 →
    Calls Tryd.prog 71 #[t.val a c, atv] w fun e w' => ∃ v vs, e = .returned v ∧ PRowN N w.heap.size w' v (pathsP t p) vs ∧ Below w.heap.size w w' := by
  intro t
  induction t using Tree.ind with
  | h t ih =>
    intro p atv w a c hr hat hN hs hd
    obtain ⟨i0, hi, hz0, hz1, hz2⟩ := info_parts Tryd.infoInt
    obtain ⟨j0, hj0', hy0, hy1, hy2⟩ := info_parts Tryd.infoInts
    obtain ⟨aa, ac, rfl⟩ := own_val hat
    obtain ⟨W, hW⟩ : ∃ W : World, w.alloc (boxObj t a c) = W := ⟨_, rfl⟩
    have hBW : Below w.heap.size w W := by rw [← hW]; exact mem_alloc _ _
    have hX : W.heap[w.heap.size]? = some (boxObj t a c) := by rw [← hW]; exact mem_new _ _
    have HR := Lib.hid (hr.below hBW)
    have HAT := Lib.hid (own_below hat hBW)
    have HB0 := Lib.hid hBW
    have HX := Lib.hid hX
    have HS := Lib.hid (mem_lt hX)
    have IH := Lib.hid ih
    have HN := Lib.hid hN
    have HSZ := Lib.hid hs
    have HD := Lib.hid hd
    have hln := hr.fits.len
    have hpl := own_size hat
    have hpd : p.length ≤ 10000 := by omega
    clear ih hr hat hBW hX hN hs hd
    go_enter Tryd.func71, Tryd.ntmps71
    go_wp2_with fail
    clear hW
    go_loopw [5, 6] (fun v i wr => ∃ (j : Nat) (L : List (List Int)) (vs : List Value), j ≤ t.len ∧ i = .int .i64 j ∧ L = pathsUp t p j ∧ PRowN N W.heap.size wr v L vs ∧ Below W.heap.size W wr) (fun _ i _ => t.len - (intOf i).toNat)
    case atStart =>
      refine ⟨0, [p], [.slice aa p.length ac], Nat.zero_le _, rfl, rfl, ⟨World.ownsRow_lit W #[.slice aa p.length ac] 1 (by simp) (by unfold maxLen; omega) rfl, fun i q u hq hu => ?_⟩, mem_alloc _ _⟩
      match i, hq, hu with
      | 0, hq, hu => cases hq; cases hu; exact own_below HAT.out (mem_alloc _ _)
      | i + 1, hq, hu => simp at hq
    case round =>
      obtain ⟨j, L, vs, hj, rfl, hL, hrow, hB⟩ := hrel
      have HROW := Lib.hid hrow
      have HL := Lib.hid hL
      have HBW := Lib.hid hB
      have hx := mem_keep HX.out hB
      obtain ⟨⟨f0, f1, f2, f3⟩, _⟩ := blk4 hx
      have hNr : w.heap.size < wr.heap.size := Nat.lt_of_lt_of_le HS.out hB.size
      obtain ⟨va, vc, rfl⟩ := own_val hrow.own
      clear hL hrow hB hx
      by_cases hlt : j < t.len
      · rcases HR.out.kids with h0 | ⟨kb, ko, rfl, hc⟩
        · omega
        obtain ⟨ai, ci, hn, hrk⟩ := hc j hlt
        have HCV : Hid (∀ w', Below W.heap.size W w' → w'.cell? ⟨w.heap.size, 3, none⟩ = some (.slice (some ⟨kb, ko, none⟩) t.len c) ∧ NodeAt w' kb (ko + j * 4) (t.kid j) ai ci) := fun w' h => by
          have hx := mem_keep HX.out h
          exact ⟨mem_cell hx 3, hn.below h hn.lt⟩
        have HNR : Hid (N ≤ wr.heap.size) := by have := HN.out; show _ ≤ _; omega
        obtain ⟨L6, hL6⟩ : ∃ L6, pathsP (t.kid j) (p ++ [(j : Int)]) = L6 := ⟨_, rfl⟩
        have HCALL : Hid (∀ w' v', Below wr.heap.size wr w' → PathV N w' v' (p ++ [(j : Int)]) → Calls Tryd.prog 71 #[(t.kid j).val ai ci, v'] w' fun e w'' => ∃ v vs, e = .returned v ∧ PRowN N w'.heap.size w'' v L6 vs ∧ Below w'.heap.size w' w'') := fun w' v' h hv => by
          have h9 := IH.out j hlt (p ++ [(j : Int)]) v' w' ai ci (hrk.below (mem_then HBW.out h)) hv (Nat.le_trans HNR.out h.size) (by have := HSZ.out; have := Tree.size_kid hlt; omega) (by have := HD.out; have := Tree.depth_kid hlt; rw [List.length_append]; simp; omega)
          rw [hL6] at h9
          exact h9
        have HNEXT : Hid (pathsUp t p (j + 1) = L ++ L6) := by show _ = _; rw [pathsUp_succ, hL6, HL.out]
        have hle := pathsUp_le t p j hlt
        rw [hL6, ← HL.out] at hle
        have hnn : L.length + L6.length ≤ 100000 := by have := HSZ.out; omega
        have HOWN : Hid (wr.ownsRow W.heap.size 33 1 (.slice va L.length vc) L.length vs) := HROW.out.own
        have HSRC : Hid (Src wr aa p.length 1 (ints p)) := (own_src HAT.out).below HBW.out
        have HApa5 : Hid (AppSt wr ([] : List (Nat × Obj)) 3 1 (.slice none 0 0) 0 [] wr) := AppSt.begin (Below.refl _ _) (by simp)
        have hj1 : (0 : Int) ≤ (j : Int) := by omega
        have hj2 : (j : Int) < (t.len : Int) := by omega
        clear hc hn hrk hle
        go_wp2_with fail
        clear f0 f1 f2 f3
        refine cut_runA (RunEnd3 16 14 5 (fun v w' => ∃ vs', PRowN N W.heap.size w' v (L ++ L6) vs' ∧ Below W.heap.size W w')) ?_ ?_
        · skip
          refine wp_region_held_drew (S := fun w' => Below W.heap.size W w') (by kernel_rfl) (mem_then HBW.out (HApa5.out.bel.drew)) (fun hHeld => ?_)
          have HA0 : Hid (AppSt wr ([] : List (Nat × Obj)) 3 1 (.slice none 0 0) 0 [] (World.drew _)) := AppSt.begin HApa5.out.bel.drew (fun x hx => by have := (HApa5.out.blk x hx).1; exact this)
          generalize hw0 : World.drew _ = v0 at hHeld HA0 ⊢
          clear hw0
          refine wpAnyH_take (i := 0) (v := .slice va L.length vc) rfl (by kernel_rfl) (by kernel_rfl) (by kernel_rfl) (fun _ _ _ h => h) (Or.inl ⟨by rfl, ?_⟩) (by assumption) ?_
          · intro w' hSw; go_simp
          (try simp only [Act.put, List.getElem_toArray, List.getElem_cons_zero, List.setIfInBounds_toArray, List.set_cons_zero, List.set_cons_succ])
          refine wpAnyH_take (i := 1) (v := .pointer (some ⟨w.heap.size, 3, none⟩)) rfl (by kernel_rfl) (by kernel_rfl) (by kernel_rfl) (fun _ _ _ h => h) (Or.inl ⟨by rfl, ?_⟩) (by assumption) ?_
          · intro w' hSw; go_simp
          (try simp only [Act.put, List.getElem_toArray, List.getElem_cons_zero, List.getElem_cons_succ, List.setIfInBounds_toArray, List.set_cons_zero, List.set_cons_succ])
          refine wpAnyH_take (i := 2) (v := .slice (some ⟨kb, ko, none⟩) t.len c) rfl (by kernel_rfl) (by kernel_rfl) (by kernel_rfl) (fun _ _ _ h => h) (Or.inl ⟨by rfl, ?_⟩) (by assumption) ?_
          · intro w' hSw; obtain ⟨z3, _⟩ := HCV.out _ hSw; go_simp
          (try simp only [Act.put, List.getElem_toArray, List.getElem_cons_zero, List.getElem_cons_succ, List.setIfInBounds_toArray, List.set_cons_zero, List.set_cons_succ])
          refine wpAnyH_take (i := 3) (v := .int .i64 (j : Int)) rfl (by kernel_rfl) (by kernel_rfl) (by kernel_rfl) (fun _ _ _ h => h) (Or.inl ⟨by rfl, ?_⟩) (by assumption) ?_
          · intro w' hSw; go_simp
          (try simp only [Act.put, List.getElem_toArray, List.getElem_cons_zero, List.getElem_cons_succ, List.setIfInBounds_toArray, List.set_cons_zero, List.set_cons_succ])
          refine wpAnyH_take (i := 4) (v := .pointer (some ⟨kb, ko + j * 4, none⟩)) rfl (by kernel_rfl) (by kernel_rfl) (by kernel_rfl) (fun _ _ _ h => h) (Or.inl ⟨by rfl, ?_⟩) (by assumption) ?_
          · intro w' hSw; go_simp
          (try simp only [Act.put, List.getElem_toArray, List.getElem_cons_zero, List.getElem_cons_succ, List.setIfInBounds_toArray, List.set_cons_zero, List.set_cons_succ])
          refine wpAnyH_take (i := 5) (v := (t.kid j).val ai ci) rfl (by kernel_rfl) (by kernel_rfl) (by kernel_rfl) (fun _ _ _ h => h) (Or.inl ⟨by rfl, ?_⟩) (by assumption) ?_
          · intro w' hSw; obtain ⟨_, z0, z1, z2, z3⟩ := HCV.out _ hSw; go_simp
          (try simp only [Act.put, List.getElem_toArray, List.getElem_cons_zero, List.getElem_cons_succ, List.setIfInBounds_toArray, List.set_cons_zero, List.set_cons_succ])
          refine wpAnyH_take (i := 7) (v := .slice aa p.length ac) rfl (by kernel_rfl) (by kernel_rfl) (by kernel_rfl) (fun _ _ _ h => h) (Or.inl ⟨by rfl, ?_⟩) (by assumption) ?_
          · intro w' hSw; go_simp
          (try simp only [Act.put, List.getElem_toArray, List.getElem_cons_zero, List.getElem_cons_succ, List.setIfInBounds_toArray, List.set_cons_zero, List.set_cons_succ])
          refine wpAnyH_take (i := 9) (v := .int .i64 (j : Int)) rfl (by kernel_rfl) (by kernel_rfl) (by kernel_rfl) (fun _ _ _ h => h) (Or.inl ⟨by rfl, ?_⟩) (by assumption) ?_
          · intro w' hSw; go_simp
          (try simp only [Act.put, List.getElem_toArray, List.getElem_cons_zero, List.getElem_cons_succ, List.setIfInBounds_toArray, List.set_cons_zero, List.set_cons_succ])
          refine wpAnyH_ready (rs := [6, 10]) (by kernel_rfl) (by simp) (AllReadyH.cons rfl (fun K hK => ?_) (AllReadyH.cons rfl (fun K hK => ?_) AllReadyH.nil))
          · skip
            go_simp
            have HA1 := Lib.hid HA0.out.start
            refine hK.out _ _ (mem_then HBW.out (HA1.out.bel)) (fun hHeld => ?_)
            clear hK K
            rename_i hOld
            clear hOld
            (try simp only [Act.put, List.getElem_toArray, List.getElem_cons_zero, List.getElem_cons_succ, List.setIfInBounds_toArray, List.set_cons_zero, List.set_cons_succ])
            generalize hw : World.alloc v0 _ = v1 at hHeld HA1 ⊢
            clear hw
            refine wpAnyH_ready (rs := [8, 10]) (by kernel_rfl) (by simp) (AllReadyH.cons rfl (fun K hK => ?_) (AllReadyH.cons rfl (fun K hK => ?_) AllReadyH.nil))
            · skip
              refine step_append_src _ rfl (.tmp 22) (.tmp 23) 33 rfl wr.heap.size 3 i0 _ 1 8 Tryd.underlying33 hi hz0 hz1 hz2 rfl (by decide) (.slice (some ⟨v0.heap.size, 0, none⟩) 0 0) 0 [] (by simp [Act.eval]) HA1.out.own aa p.length ac (ints p) (by simp [Act.eval]) (HSRC.out.below HA1.out.bel) (ints_one p) (by unfold maxLen; omega) (by omega) HA1.out.bel.size ?_
              intro r2 v2 hown hgrow hplace
              rw [Nat.zero_add, List.nil_append] at hown
              obtain ⟨ra2, rc2, rfl⟩ := own_val hown
              have HA2 := Lib.hid (HA1.out.grow hown hgrow hplace)
              refine hK.out _ _ (mem_then HBW.out (HA2.out.bel)) (fun hHeld => ?_)
              clear hK K hown hgrow hplace
              rename_i hOld
              clear hOld
              (try simp only [Act.put, List.getElem_toArray, List.getElem_cons_zero, List.getElem_cons_succ, List.setIfInBounds_toArray, List.set_cons_zero, List.set_cons_succ])
              refine wpAnyH_ready (rs := [10]) (by kernel_rfl) (by simp) (AllReadyH.cons rfl (fun K hK => ?_) AllReadyH.nil)
              go_simp
              have HA3 := Lib.hid (HA2.out.alloc (.cells #[.int .i64 (j : Int)] 3))
              refine hK.out _ _ (mem_then HBW.out (HA3.out.bel)) (fun hHeld => ?_)
              clear hK K
              rename_i hOld
              clear hOld
              (try simp only [Act.put, List.getElem_toArray, List.getElem_cons_zero, List.getElem_cons_succ, List.setIfInBounds_toArray, List.set_cons_zero, List.set_cons_succ])
              generalize hw : World.alloc v2 _ = v3 at hHeld HA3 ⊢
              clear hw
              refine wpAnyH_ready (rs := [11]) (by kernel_rfl) (by simp) (AllReadyH.cons rfl (fun K hK => ?_) AllReadyH.nil)
              refine step_append_src _ rfl (.tmp 24) (.tmp 26) 33 rfl wr.heap.size 3 i0 _ 1 8 Tryd.underlying33 hi hz0 hz1 hz2 rfl (by decide) (.slice ra2 p.length rc2) p.length ((ints p)) (by simp [Act.eval]) HA3.out.own (some ⟨v2.heap.size, 0, none⟩) 1 1 [.int .i64 (j : Int)] (by simp [Act.eval]) (one_src (cs := [.int .i64 (j : Int)]) (n := 1) (HA3.out.blk (v2.heap.size, .cells #[.int .i64 (j : Int)] 3) (by simp)).1 rfl) (by simp [Value.oneCell']) (by unfold maxLen; omega) (by omega) HA3.out.bel.size ?_
              intro r4 v4 hown hgrow hplace
              obtain ⟨ra4, rc4, rfl⟩ := own_val hown
              have HA4 := Lib.hid (HA3.out.grow hown hgrow hplace)
              refine hK.out _ _ (mem_then HBW.out (HA4.out.bel)) (fun hHeld => ?_)
              clear hK K hown hgrow hplace
              rename_i hOld
              clear hOld
              (try simp only [Act.put, List.getElem_toArray, List.getElem_cons_zero, List.getElem_cons_succ, List.setIfInBounds_toArray, List.set_cons_zero, List.set_cons_succ])
              have HPV : Hid (PathV N v4 (.slice ra4 (p.length + 1) rc4) (p ++ [(j : Int)])) := by
                have h := ownsRow_base HA4.out.own HNR.out
                show PathV _ _ _ _
                unfold PathV
                rw [List.length_append, ints_snoc]
                exact h
              have HBQ := Lib.hid HA4.out.bel
              refine wpAnyH_ready (rs := [12]) (by kernel_rfl) (by simp) (AllReadyH.cons rfl (fun K hK => ?_) AllReadyH.nil)
              go_simp
              have h9 := HCALL.out v4 _ HBQ.out HPV.out
              refine h9.mono ?_
              clear h9
              rintro e w6 ⟨v6, vs6, he, hrow6, hB6⟩
              obtain ⟨ka6, kc6, rfl⟩ := own_val hrow6.own
              subst he
              have HROW6 := Lib.hid hrow6
              have HB6 := Lib.hid (mem_then HBQ.out hB6)
              clear hrow6 hB6
              refine hK.out _ _ (mem_then HBW.out HB6.out) (fun hHeld => ?_)
              clear hK K
              rename_i hOld
              clear hOld
              (try simp only [Act.put, List.getElem_toArray, List.getElem_cons_zero, List.getElem_cons_succ, List.setIfInBounds_toArray, List.set_cons_zero, List.set_cons_succ])
              refine wpAnyH_ready (rs := [13]) (by kernel_rfl) (by simp) (AllReadyH.cons rfl (fun K hK => ?_) AllReadyH.nil)
              refine step_append_src _ rfl (.tmp 16) (.tmp 28) 50 rfl W.heap.size 33 j0 _ 1 24 Tryd.underlying50 hj0' hy0 hy1 hy2 rfl (by decide) (.slice va L.length vc) L.length vs (by simp [Act.eval]) (own_below HOWN.out HB6.out) ka6 L6.length kc6 vs6 (by simp [Act.eval]) (own_src HROW6.out.own) HROW6.out.ones (by unfold maxLen; omega) (by omega) (mem_then HBW.out HB6.out).size ?_
              intro v9 w9 hown9 hgrow9 _
              obtain ⟨va9, vc9, rfl⟩ := own_val hown9
              have HBW9 := Lib.hid ((mem_then HBW.out HB6.out).grown hgrow9 (mem_then HBW.out HB6.out).size (fun b hb => (own_lt HOWN.out hb).1))
              have HROW9 := Lib.hid (HROW.out.join HB6.out HROW6.out hown9 hgrow9)
              refine hK.out _ _ HBW9.out (fun hHeld => ?_)
              clear hK K hown9 hgrow9
              rename_i hOld
              clear hOld
              (try simp only [Act.put, List.getElem_toArray, List.getElem_cons_zero, List.getElem_cons_succ, List.setIfInBounds_toArray, List.set_cons_zero, List.set_cons_succ])
              refine wpAnyH_ready (rs := [14]) (by kernel_rfl) (by simp) (AllReadyH.cons rfl (fun K hK => ?_) AllReadyH.nil)
              go_simp
              refine hK.out _ _ (HBW9.out) (fun hHeld => ?_)
              clear hK K
              rename_i hOld
              clear hOld
              (try simp only [Act.put, List.getElem_toArray, List.getElem_cons_zero, List.getElem_cons_succ, List.setIfInBounds_toArray, List.set_cons_zero, List.set_cons_succ])
              refine wpAnyH_done (by kernel_rfl) ?_ _
              exact ⟨[_, _, _, _, _, _, _, _, _, _, _, _, _, _], _, rfl, (by simp only [putAll, List.setIfInBounds_toArray, List.set_cons_zero, List.set_cons_succ]; rfl), _, HROW9.out, HBW9.out⟩
            · skip
              go_simp
              have HA2 := Lib.hid (HA1.out.alloc (.cells #[.int .i64 (j : Int)] 3))
              refine hK.out _ _ (mem_then HBW.out (HA2.out.bel)) (fun hHeld => ?_)
              clear hK K
              rename_i hOld
              clear hOld
              (try simp only [Act.put, List.getElem_toArray, List.getElem_cons_zero, List.getElem_cons_succ, List.setIfInBounds_toArray, List.set_cons_zero, List.set_cons_succ])
              generalize hw : World.alloc v1 _ = v2 at hHeld HA2 ⊢
              clear hw
              refine wpAnyH_ready (rs := [8]) (by kernel_rfl) (by simp) (AllReadyH.cons rfl (fun K hK => ?_) AllReadyH.nil)
              refine step_append_src _ rfl (.tmp 22) (.tmp 23) 33 rfl wr.heap.size 3 i0 _ 1 8 Tryd.underlying33 hi hz0 hz1 hz2 rfl (by decide) (.slice (some ⟨v0.heap.size, 0, none⟩) 0 0) 0 [] (by simp [Act.eval]) HA2.out.own aa p.length ac (ints p) (by simp [Act.eval]) (HSRC.out.below HA2.out.bel) (ints_one p) (by unfold maxLen; omega) (by omega) HA2.out.bel.size ?_
              intro r3 v3 hown hgrow hplace
              rw [Nat.zero_add, List.nil_append] at hown
              obtain ⟨ra3, rc3, rfl⟩ := own_val hown
              have HA3 := Lib.hid (HA2.out.grow hown hgrow hplace)
              refine hK.out _ _ (mem_then HBW.out (HA3.out.bel)) (fun hHeld => ?_)
              clear hK K hown hgrow hplace
              rename_i hOld
              clear hOld
              (try simp only [Act.put, List.getElem_toArray, List.getElem_cons_zero, List.getElem_cons_succ, List.setIfInBounds_toArray, List.set_cons_zero, List.set_cons_succ])
              refine wpAnyH_ready (rs := [11]) (by kernel_rfl) (by simp) (AllReadyH.cons rfl (fun K hK => ?_) AllReadyH.nil)
              refine step_append_src _ rfl (.tmp 24) (.tmp 26) 33 rfl wr.heap.size 3 i0 _ 1 8 Tryd.underlying33 hi hz0 hz1 hz2 rfl (by decide) (.slice ra3 p.length rc3) p.length ((ints p)) (by simp [Act.eval]) HA3.out.own (some ⟨v1.heap.size, 0, none⟩) 1 1 [.int .i64 (j : Int)] (by simp [Act.eval]) (one_src (cs := [.int .i64 (j : Int)]) (n := 1) (HA3.out.blk (v1.heap.size, .cells #[.int .i64 (j : Int)] 3) (by simp)).1 rfl) (by simp [Value.oneCell']) (by unfold maxLen; omega) (by omega) HA3.out.bel.size ?_
              intro r4 v4 hown hgrow hplace
              obtain ⟨ra4, rc4, rfl⟩ := own_val hown
              have HA4 := Lib.hid (HA3.out.grow hown hgrow hplace)
              refine hK.out _ _ (mem_then HBW.out (HA4.out.bel)) (fun hHeld => ?_)
              clear hK K hown hgrow hplace
              rename_i hOld
              clear hOld
              (try simp only [Act.put, List.getElem_toArray, List.getElem_cons_zero, List.getElem_cons_succ, List.setIfInBounds_toArray, List.set_cons_zero, List.set_cons_succ])
              have HPV : Hid (PathV N v4 (.slice ra4 (p.length + 1) rc4) (p ++ [(j : Int)])) := by
                have h := ownsRow_base HA4.out.own HNR.out
                show PathV _ _ _ _
                unfold PathV
                rw [List.length_append, ints_snoc]
                exact h
              have HBQ := Lib.hid HA4.out.bel
              refine wpAnyH_ready (rs := [12]) (by kernel_rfl) (by simp) (AllReadyH.cons rfl (fun K hK => ?_) AllReadyH.nil)
              go_simp
              have h9 := HCALL.out v4 _ HBQ.out HPV.out
              refine h9.mono ?_
              clear h9
              rintro e w6 ⟨v6, vs6, he, hrow6, hB6⟩
              obtain ⟨ka6, kc6, rfl⟩ := own_val hrow6.own
              subst he
              have HROW6 := Lib.hid hrow6
              have HB6 := Lib.hid (mem_then HBQ.out hB6)
              clear hrow6 hB6
              refine hK.out _ _ (mem_then HBW.out HB6.out) (fun hHeld => ?_)
              clear hK K
              rename_i hOld
              clear hOld
              (try simp only [Act.put, List.getElem_toArray, List.getElem_cons_zero, List.getElem_cons_succ, List.setIfInBounds_toArray, List.set_cons_zero, List.set_cons_succ])
              refine wpAnyH_ready (rs := [13]) (by kernel_rfl) (by simp) (AllReadyH.cons rfl (fun K hK => ?_) AllReadyH.nil)
              refine step_append_src _ rfl (.tmp 16) (.tmp 28) 50 rfl W.heap.size 33 j0 _ 1 24 Tryd.underlying50 hj0' hy0 hy1 hy2 rfl (by decide) (.slice va L.length vc) L.length vs (by simp [Act.eval]) (own_below HOWN.out HB6.out) ka6 L6.length kc6 vs6 (by simp [Act.eval]) (own_src HROW6.out.own) HROW6.out.ones (by unfold maxLen; omega) (by omega) (mem_then HBW.out HB6.out).size ?_
              intro v9 w9 hown9 hgrow9 _
              obtain ⟨va9, vc9, rfl⟩ := own_val hown9
              have HBW9 := Lib.hid ((mem_then HBW.out HB6.out).grown hgrow9 (mem_then HBW.out HB6.out).size (fun b hb => (own_lt HOWN.out hb).1))
              have HROW9 := Lib.hid (HROW.out.join HB6.out HROW6.out hown9 hgrow9)
              refine hK.out _ _ HBW9.out (fun hHeld => ?_)
              clear hK K hown9 hgrow9
              rename_i hOld
              clear hOld
              (try simp only [Act.put, List.getElem_toArray, List.getElem_cons_zero, List.getElem_cons_succ, List.setIfInBounds_toArray, List.set_cons_zero, List.set_cons_succ])
              refine wpAnyH_ready (rs := [14]) (by kernel_rfl) (by simp) (AllReadyH.cons rfl (fun K hK => ?_) AllReadyH.nil)
              go_simp
              refine hK.out _ _ (HBW9.out) (fun hHeld => ?_)
              clear hK K
              rename_i hOld
              clear hOld
              (try simp only [Act.put, List.getElem_toArray, List.getElem_cons_zero, List.getElem_cons_succ, List.setIfInBounds_toArray, List.set_cons_zero, List.set_cons_succ])
              refine wpAnyH_done (by kernel_rfl) ?_ _
              exact ⟨[_, _, _, _, _, _, _, _, _, _, _, _, _, _], _, rfl, (by simp only [putAll, List.setIfInBounds_toArray, List.set_cons_zero, List.set_cons_succ]; rfl), _, HROW9.out, HBW9.out⟩
          · skip
            go_simp
            have HA1 := Lib.hid (HA0.out.alloc (.cells #[.int .i64 (j : Int)] 3))
            refine hK.out _ _ (mem_then HBW.out (HA1.out.bel)) (fun hHeld => ?_)
            clear hK K
            rename_i hOld
            clear hOld
            (try simp only [Act.put, List.getElem_toArray, List.getElem_cons_zero, List.getElem_cons_succ, List.setIfInBounds_toArray, List.set_cons_zero, List.set_cons_succ])
            generalize hw : World.alloc v0 _ = v1 at hHeld HA1 ⊢
            clear hw
            refine wpAnyH_ready (rs := [6]) (by kernel_rfl) (by simp) (AllReadyH.cons rfl (fun K hK => ?_) AllReadyH.nil)
            go_simp
            have HA2 := Lib.hid HA1.out.start
            refine hK.out _ _ (mem_then HBW.out (HA2.out.bel)) (fun hHeld => ?_)
            clear hK K
            rename_i hOld
            clear hOld
            (try simp only [Act.put, List.getElem_toArray, List.getElem_cons_zero, List.getElem_cons_succ, List.setIfInBounds_toArray, List.set_cons_zero, List.set_cons_succ])
            generalize hw : World.alloc v1 _ = v2 at hHeld HA2 ⊢
            clear hw
            refine wpAnyH_ready (rs := [8]) (by kernel_rfl) (by simp) (AllReadyH.cons rfl (fun K hK => ?_) AllReadyH.nil)
            refine step_append_src _ rfl (.tmp 22) (.tmp 23) 33 rfl wr.heap.size 3 i0 _ 1 8 Tryd.underlying33 hi hz0 hz1 hz2 rfl (by decide) (.slice (some ⟨v1.heap.size, 0, none⟩) 0 0) 0 [] (by simp [Act.eval]) HA2.out.own aa p.length ac (ints p) (by simp [Act.eval]) (HSRC.out.below HA2.out.bel) (ints_one p) (by unfold maxLen; omega) (by omega) HA2.out.bel.size ?_
            intro r3 v3 hown hgrow hplace
            rw [Nat.zero_add, List.nil_append] at hown
            obtain ⟨ra3, rc3, rfl⟩ := own_val hown
            have HA3 := Lib.hid (HA2.out.grow hown hgrow hplace)
            refine hK.out _ _ (mem_then HBW.out (HA3.out.bel)) (fun hHeld => ?_)
            clear hK K hown hgrow hplace
            rename_i hOld
            clear hOld
            (try simp only [Act.put, List.getElem_toArray, List.getElem_cons_zero, List.getElem_cons_succ, List.setIfInBounds_toArray, List.set_cons_zero, List.set_cons_succ])
            refine wpAnyH_ready (rs := [11]) (by kernel_rfl) (by simp) (AllReadyH.cons rfl (fun K hK => ?_) AllReadyH.nil)
            refine step_append_src _ rfl (.tmp 24) (.tmp 26) 33 rfl wr.heap.size 3 i0 _ 1 8 Tryd.underlying33 hi hz0 hz1 hz2 rfl (by decide) (.slice ra3 p.length rc3) p.length ((ints p)) (by simp [Act.eval]) HA3.out.own (some ⟨v0.heap.size, 0, none⟩) 1 1 [.int .i64 (j : Int)] (by simp [Act.eval]) (one_src (cs := [.int .i64 (j : Int)]) (n := 1) (HA3.out.blk (v0.heap.size, .cells #[.int .i64 (j : Int)] 3) (by simp)).1 rfl) (by simp [Value.oneCell']) (by unfold maxLen; omega) (by omega) HA3.out.bel.size ?_
            intro r4 v4 hown hgrow hplace
            obtain ⟨ra4, rc4, rfl⟩ := own_val hown
            have HA4 := Lib.hid (HA3.out.grow hown hgrow hplace)
            refine hK.out _ _ (mem_then HBW.out (HA4.out.bel)) (fun hHeld => ?_)
            clear hK K hown hgrow hplace
            rename_i hOld
            clear hOld
            (try simp only [Act.put, List.getElem_toArray, List.getElem_cons_zero, List.getElem_cons_succ, List.setIfInBounds_toArray, List.set_cons_zero, List.set_cons_succ])
            have HPV : Hid (PathV N v4 (.slice ra4 (p.length + 1) rc4) (p ++ [(j : Int)])) := by
              have h := ownsRow_base HA4.out.own HNR.out
              show PathV _ _ _ _
              unfold PathV
              rw [List.length_append, ints_snoc]
              exact h
            have HBQ := Lib.hid HA4.out.bel
            refine wpAnyH_ready (rs := [12]) (by kernel_rfl) (by simp) (AllReadyH.cons rfl (fun K hK => ?_) AllReadyH.nil)
            go_simp
            have h9 := HCALL.out v4 _ HBQ.out HPV.out
            refine h9.mono ?_
            clear h9
            rintro e w6 ⟨v6, vs6, he, hrow6, hB6⟩
            obtain ⟨ka6, kc6, rfl⟩ := own_val hrow6.own
            subst he
            have HROW6 := Lib.hid hrow6
            have HB6 := Lib.hid (mem_then HBQ.out hB6)
            clear hrow6 hB6
            refine hK.out _ _ (mem_then HBW.out HB6.out) (fun hHeld => ?_)
            clear hK K
            rename_i hOld
            clear hOld
            (try simp only [Act.put, List.getElem_toArray, List.getElem_cons_zero, List.getElem_cons_succ, List.setIfInBounds_toArray, List.set_cons_zero, List.set_cons_succ])
            refine wpAnyH_ready (rs := [13]) (by kernel_rfl) (by simp) (AllReadyH.cons rfl (fun K hK => ?_) AllReadyH.nil)
            refine step_append_src _ rfl (.tmp 16) (.tmp 28) 50 rfl W.heap.size 33 j0 _ 1 24 Tryd.underlying50 hj0' hy0 hy1 hy2 rfl (by decide) (.slice va L.length vc) L.length vs (by simp [Act.eval]) (own_below HOWN.out HB6.out) ka6 L6.length kc6 vs6 (by simp [Act.eval]) (own_src HROW6.out.own) HROW6.out.ones (by unfold maxLen; omega) (by omega) (mem_then HBW.out HB6.out).size ?_
            intro v9 w9 hown9 hgrow9 _
            obtain ⟨va9, vc9, rfl⟩ := own_val hown9
            have HBW9 := Lib.hid ((mem_then HBW.out HB6.out).grown hgrow9 (mem_then HBW.out HB6.out).size (fun b hb => (own_lt HOWN.out hb).1))
            have HROW9 := Lib.hid (HROW.out.join HB6.out HROW6.out hown9 hgrow9)
            refine hK.out _ _ HBW9.out (fun hHeld => ?_)
            clear hK K hown9 hgrow9
            rename_i hOld
            clear hOld
            (try simp only [Act.put, List.getElem_toArray, List.getElem_cons_zero, List.getElem_cons_succ, List.setIfInBounds_toArray, List.set_cons_zero, List.set_cons_succ])
            refine wpAnyH_ready (rs := [14]) (by kernel_rfl) (by simp) (AllReadyH.cons rfl (fun K hK => ?_) AllReadyH.nil)
            go_simp
            refine hK.out _ _ (HBW9.out) (fun hHeld => ?_)
            clear hK K
            rename_i hOld
            clear hOld
            (try simp only [Act.put, List.getElem_toArray, List.getElem_cons_zero, List.getElem_cons_succ, List.setIfInBounds_toArray, List.set_cons_zero, List.set_cons_succ])
            refine wpAnyH_done (by kernel_rfl) ?_ _
            exact ⟨[_, _, _, _, _, _, _, _, _, _, _, _, _, _], _, rfl, (by simp only [putAll, List.setIfInBounds_toArray, List.set_cons_zero, List.set_cons_succ]; rfl), _, HROW9.out, HBW9.out⟩
        · rintro a' w9 ⟨l, v9, hl, rfl, vs9, hrow9, hB9⟩
          obtain ⟨l0, l1, l2, l3, l4, l5, l6, l7, l8, l9, l10, l11, l12, l13, rfl⟩ := list14 hl
          simp only [putAll, List.setIfInBounds_toArray, List.set_cons_zero, List.set_cons_succ]
          have HROW9 := Lib.hid hrow9
          have HB9 := Lib.hid hB9
          obtain ⟨va9, vc9, rfl⟩ := own_val hrow9.own
          clear hl hrow9 hB9
          go_wp2_with fail
          go_roundw
          case rel => exact ⟨j + 1, L ++ L6, vs9, by omega, by go_num, HNEXT.out.symm, HROW9.out, HB9.out⟩
          case measure => simp [intOf]; omega
      · obtain rfl : j = t.len := by omega
        go_wp2_with fail
        go_ret
        refine ⟨.slice va L.length vc, vs, rfl, ?_, HB0.out.trans (HBW.out.mono HB0.out.size)⟩
        rw [pathsP_eq, ← HL.out]
        exact HROW.out.base HB0.out.size
end Go.Proofs.YtnegdmhmhdojbaaDoor
