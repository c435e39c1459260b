/-
  Contracts of the reference (package ontimeref15): around, place.
-/
import Derived.Test.YtnegdmhmhdojbaaDoorRef15
import Derived.Test.YtnegdmhmhdojbaaDoorApps
namespace Go.Proofs.YtnegdmhmhdojbaaDoor
set_option linter.unusedVariables false
set_option linter.unusedSimpArgs false
open Go.RowKit
set_option maxRecDepth 100000
set_option maxHeartbeats 8000000

theorem IRow.take {w : World} {a : Option Addr} {p : List Int} (h : IRow w a p) (j : Nat) : IRow w a (p.take j) := by
  refine ⟨by have := h.1; rw [List.length_take]; omega, fun i hi => ?_⟩
  rw [List.length_take] at hi
  obtain ⟨b, off, ha, hc⟩ := h.2 i (by omega)
  have e : (p.take j).getD i 0 = p.getD i 0 := by
    simp only [List.getD_eq_getElem?_getD]
    rw [List.getElem?_take_of_lt (by omega)]
  rw [e]
  exact ⟨b, off, ha, hc⟩
theorem at_take {t u0 : Tree} {p : List Int} (h : t.at p = some u0) (j : Nat) : ∃ u, t.at (p.take j) = some u := by
  cases h1 : t.at (p.take j) with
  | some u => exact ⟨u, rfl⟩
  | none =>
    have h2 := Tree.at_none (q := p.drop j) h1
    rw [List.take_append_drop, h] at h2
    cases h2
theorem at_rep {w : World} : ∀ {p : List Int} {t u : Tree} {a : Option Addr}, Rep w t a → t.at p = some u → ∃ b, Rep w u b
  | [], t, u, a, hr, h => by cases h; exact ⟨a, hr⟩
  | k :: p, t, u, a, hr, h => by
    rw [Tree.at] at h
    split at h
    · rename_i hk
      rcases hr.kids with h0 | ⟨b, off, _, hc⟩
      · omega
      · obtain ⟨ai, ci, _, hr2⟩ := hc k.toNat (by omega)
        exact at_rep hr2 h
    · cases h
/-- the names of the proper ancestors of a kind -/
def aroundP (k : Int) : Tree → List Int → List ByteArray
  | _, [] => []
  | t, i :: p => (if t.kind = k then [t.name] else []) ++ aroundP k (t.kid i.toNat) p
theorem aroundP_snoc {k : Int} : ∀ {q : List Int} {t u : Tree} {i : Int}, t.at q = some u → aroundP k t (q ++ [i]) = aroundP k t q ++ if u.kind = k then [u.name] else []
  | [], t, u, i, h => by
    cases h
    show (if t.kind = k then [t.name] else []) ++ [] = [] ++ _
    rw [List.append_nil, List.nil_append]
  | x :: q, t, u, i, h => by
    rw [Tree.at] at h
    split at h
    · show _ ++ aroundP k (t.kid x.toNat) (q ++ [i]) = (_ ++ aroundP k (t.kid x.toNat) q) ++ _
      rw [aroundP_snoc h, List.append_assoc]
    · cases h
theorem aroundP_le {k : Int} : ∀ (p : List Int) (t : Tree), (aroundP k t p).length ≤ p.length
  | [], _ => Nat.le_refl _
  | i :: p, t => by
    show ((if t.kind = k then [t.name] else []) ++ _).length ≤ _
    have := aroundP_le (k := k) p (t.kid i.toNat)
    rw [List.length_append, List.length_cons]
    split <;> simp <;> omega
/-- whether the node at a path is the place of an assignment or input -/
def placeP (t : Tree) (p : List Int) : Bool :=
  match t.at p.dropLast with
  | some u => decide (p.getLast? = some 0) && (decide (u.kind = 40) || decide (u.kind = 44))
  | none => false
def RunEnd2 (lo n s : Nat) (P : Nat → World → Prop) (a a' : Act) (w' : World) : Prop := ∃ (l : List Value) (bb : Nat), l.length = n ∧ a' = { a with tmps := (putAll a.tmps lo l).setIfInBounds s (.pointer (some ⟨bb, 0, none⟩)) } ∧ P bb w'
theorem list5 {α : Type} {l : List α} (h : l.length = 5) : ∃ a0 a1 a2 a3 a4, l = [a0, a1, a2, a3, a4] := by
  match l, h with
  | [a0, a1, a2, a3, a4], _ => exact ⟨a0, a1, a2, a3, a4, rfl⟩
theorem strs_info : (Tryd.prog.info? 9).map (fun i => (i.zero, i.size, i.bytes)) = some (some (.string ⟨#[]⟩), 1, 16) := by kernel_rfl
theorem around15_any (k : Int) (hk : 0 ≤ k ∧ k ≤ 255) (t u0 : Tree) (p : List Int) (w : World) (a pa : Option Addr) (c pc : Nat) (hr : Rep w t a) (hp : IRow w pa p) (hpc : p.length ≤ pc) (hpl : p.length ≤ 1000000) (h0 : t.at p = some u0) :
    Calls Tryd.prog 79 #[t.val a c, .slice pa p.length pc, .int .u8 k] w fun e w' => ∃ A cc, e = .returned (.slice A (aroundP k t p).length cc) ∧ StrsAt w' A (aroundP k t p) ∧ Below w.heap.size w w' := by
  obtain ⟨ti, hti, hz0, hz1, hz2⟩ := info_parts strs_info
  obtain ⟨W, hW⟩ : ∃ W : World, w.alloc (boxObj t a c) = W := ⟨_, rfl⟩
  have hBW : Below w.heap.size w W := by rw [← hW]; exact mem_alloc _ _
  have hX : W.heap[w.heap.size]? = some (boxObj t a c) := by rw [← hW]; exact mem_new _ _
  have HS : Hid (w.heap.size < W.heap.size) := mem_lt hX
  have HR := Lib.hid (hr.below hBW)
  have HP := Lib.hid (hp.below hBW)
  have H0 := Lib.hid h0
  have HBW := Lib.hid hBW
  have HX := Lib.hid hX
  have HPL := Lib.hid hpl
  clear hr hp h0 hBW hX
  go_enter Tryd.func79, Tryd.ntmps79
  go_wp2_with fail
  clear hW
  go_loopw [7, 8] (fun v i wr => ∃ (j : Nat) (m : List ByteArray), j ≤ p.length ∧ i = .int .i64 j ∧ m = aroundP k t (p.take j) ∧ wr.ownsRow W.heap.size 9 1 v m.length (m.map Value.string) ∧ (∀ s ∈ m, s.size ≤ 9223372036854775807) ∧ Below W.heap.size W wr) (fun _ i _ => p.length - (intOf i).toNat)
  case atStart => exact ⟨0, [], Nat.zero_le _, rfl, rfl, World.ownsRow_nil _ _ _ _, by simp, Below.refl _ _⟩
  case round =>
    obtain ⟨j, m, hj, rfl, hm, hown, hsz, hB⟩ := hrel
    have HM := Lib.hid hm
    have HOWN := Lib.hid hown
    have HSZ := Lib.hid hsz
    have HB := Lib.hid hB
    have hj0 : (0 : Int) ≤ (j : Int) := by omega
    by_cases hlt : j < p.length
    · have hj1 : (j : Int) < (p.length : Int) := by omega
      have hj2 : j ≤ pc := by omega
      have hj3 : (j : Int) ≤ (pc : Int) := by omega
      obtain ⟨u, hu⟩ := at_take H0.out j
      have HU := Lib.hid hu
      obtain ⟨ub, hub⟩ := at_rep HR.out hu
      have HUF := Lib.hid hub.fits
      have HML : Hid (m.length ≤ j) := by
        show _ ≤ _
        have := aroundP_le (k := k) (p.take j) t
        rw [hm]
        rw [List.length_take] at this
        omega
      have htl : (p.take j).length = j := by rw [List.length_take]; omega
      have HTL := Lib.hid htl
      obtain ⟨va, vc, rfl⟩ := own_val hown
      clear hm hown hsz hB hu hub htl
      go_wp2_with fail
      refine cut_runA (RunEnd2 16 5 9 (fun bb w' => ∃ a6 c6, w'.heap[bb]? = some (boxObj u a6 c6) ∧ Below wr.heap.size wr w')) ?_ ?_
      · refine wp_region_held_drew (S := fun w' => Below wr.heap.size wr w') (by kernel_rfl) ((Below.refl _ _).drew) (fun hHeld => ?_)
        generalize hwd : World.drew _ = v0 at hHeld ⊢
        clear hwd
        refine wpAnyH_take (i := 0) (v := t.val a c) rfl (by kernel_rfl) (by kernel_rfl) (by kernel_rfl) (fun _ _ _ h => h) (Or.inl ⟨by rfl, ?_⟩) (by assumption) ?_
        · intro w' hSw; have hx := mem_keep HX.out (mem_then HB.out hSw); obtain ⟨⟨z0, z1, z2, z3⟩, _⟩ := blk4 hx; go_simp
        (try simp only [Act.put, List.getElem_toArray, List.getElem_cons_zero, List.setIfInBounds_toArray, List.set_cons_zero, List.set_cons_succ])
        refine wpAnyH_take (i := 1) (v := .slice pa p.length pc) rfl (by kernel_rfl) (by kernel_rfl) (by kernel_rfl) (fun _ _ _ h => h) (Or.inl ⟨by rfl, ?_⟩) (by assumption) ?_
        · intro w' hSw; go_simp
        (try simp only [Act.put, List.getElem_toArray, List.getElem_cons_zero, List.getElem_cons_succ, List.setIfInBounds_toArray, List.set_cons_zero, List.set_cons_succ])
        refine wpAnyH_take (i := 2) (v := .int .i64 (j : Int)) rfl (by kernel_rfl) (by kernel_rfl) (by kernel_rfl) (fun _ _ _ h => h) (Or.inl ⟨by rfl, ?_⟩) (by assumption) ?_
        · intro w' hSw; go_simp
        (try simp only [Act.put, List.getElem_toArray, List.getElem_cons_zero, List.getElem_cons_succ, List.setIfInBounds_toArray, List.set_cons_zero, List.set_cons_succ])
        refine wpAnyH_take (i := 3) (v := .slice pa j pc) rfl (by kernel_rfl) (by kernel_rfl) (by kernel_rfl) (fun _ _ _ h => h) (Or.inl ⟨by rfl, ?_⟩) (by assumption) ?_
        · intro w' hSw; go_simp
        (try simp only [Act.put, List.getElem_toArray, List.getElem_cons_zero, List.getElem_cons_succ, List.setIfInBounds_toArray, List.set_cons_zero, List.set_cons_succ])
        have HN : Hid (∀ w', Below wr.heap.size wr w' → Calls Tryd.prog 55 #[t.val a c, .slice pa j pc] w' fun e w'' => ∃ a' c', e = .returned (u.val a' c') ∧ Rep w'' u a' ∧ Below w'.heap.size w' w'') := fun w' h => by
          have hb := mem_then HB.out h
          have h9 := node15_any t u (p.take j) w' a pa c pc (HR.out.below hb) ((HP.out.below hb).take j) HU.out
          rw [HTL.out] at h9
          exact h9
        refine wpAnyH_ready (rs := [4, 5]) (by kernel_rfl) (by simp) (AllReadyH.cons rfl (fun K hK => ?_) (AllReadyH.cons rfl (fun K hK => ?_) AllReadyH.nil))
        · go_simp
          have h9 := HN.out v0 hHeld
          refine h9.mono ?_
          clear h9
          rintro e w6 ⟨a6, c6, rfl, hr6, hB6⟩
          have HB6 := Lib.hid (mem_then hHeld hB6)
          clear hr6 hB6
          refine hK.out _ _ (HB6.out) (fun hHeld => ?_)
          clear hK K
          rename_i hOld
          clear hOld
          (try simp only [Act.put, List.getElem_toArray, List.getElem_cons_zero, List.getElem_cons_succ, List.setIfInBounds_toArray, List.set_cons_zero, List.set_cons_succ])
          refine wpAnyH_ready (rs := [5]) (by kernel_rfl) (by simp) (AllReadyH.cons rfl (fun K hK => ?_) AllReadyH.nil)
          go_simp
          have hB7 : Below wr.heap.size wr (w6.alloc (boxObj noTree none 0)) := mem_then HB6.out (mem_alloc _ _)
          refine hK.out _ _ (hB7) (fun hHeld => ?_)
          clear hK K
          rename_i hOld
          clear hOld
          (try simp only [Act.put, List.getElem_toArray, List.getElem_cons_zero, List.getElem_cons_succ, List.setIfInBounds_toArray, List.set_cons_zero, List.set_cons_succ])
          refine wpAnyH_ready (rs := [6]) (by kernel_rfl) (by simp) (AllReadyH.cons rfl (fun K hK => ?_) AllReadyH.nil)
          go_simp
          have hB8 : Below wr.heap.size wr (w6.alloc (boxObj u a6 c6)) := mem_then HB6.out (mem_alloc _ _)
          refine hK.out _ _ (hB8) (fun hHeld => ?_)
          clear hK K
          rename_i hOld
          clear hOld
          (try simp only [Act.put, List.getElem_toArray, List.getElem_cons_zero, List.getElem_cons_succ, List.setIfInBounds_toArray, List.set_cons_zero, List.set_cons_succ])
          refine wpAnyH_done (by kernel_rfl) ?_ _
          exact ⟨[_, _, _, _, _], w6.heap.size, rfl, (by simp only [putAll, List.setIfInBounds_toArray, List.set_cons_zero, List.set_cons_succ]; rfl), a6, c6, mem_new _ _, hB8⟩
        · go_simp
          have HV : Hid (wr.heap.size ≤ v0.heap.size) := hHeld.size
          have hB5 : Below wr.heap.size wr (v0.alloc (boxObj noTree none 0)) := mem_then hHeld (mem_alloc _ _)
          refine hK.out _ _ (hB5) (fun hHeld => ?_)
          clear hK K
          rename_i hOld
          clear hOld
          (try simp only [Act.put, List.getElem_toArray, List.getElem_cons_zero, List.getElem_cons_succ, List.setIfInBounds_toArray, List.set_cons_zero, List.set_cons_succ])
          refine wpAnyH_ready (rs := [4]) (by kernel_rfl) (by simp) (AllReadyH.cons rfl (fun K hK => ?_) AllReadyH.nil)
          go_simp
          have h9 := HN.out _ hB5
          refine h9.mono ?_
          clear h9
          rintro e w6 ⟨a6, c6, rfl, hr6, hB6⟩
          have hZ : w6.heap[v0.heap.size]? = some (boxObj noTree none 0) := mem_keep (mem_new _ _) hB6
          have HZ := Lib.hid hZ
          have HB6 := Lib.hid (mem_then hB5 hB6)
          clear hr6 hB6 hZ
          refine hK.out _ _ (HB6.out) (fun hHeld => ?_)
          clear hK K
          rename_i hOld
          clear hOld
          (try simp only [Act.put, List.getElem_toArray, List.getElem_cons_zero, List.getElem_cons_succ, List.setIfInBounds_toArray, List.set_cons_zero, List.set_cons_succ])
          obtain ⟨⟨z0, z1, z2, z3⟩, q0, q1, q2, q3⟩ := blk4 HZ.out
          refine wpAnyH_ready (rs := [6]) (by kernel_rfl) (by simp) (AllReadyH.cons rfl (fun K hK => ?_) AllReadyH.nil)
          go_simp
          have hB8 : Below wr.heap.size wr (set4 w6 v0.heap.size (.int .u8 u.kind) (.int .i64 u.num) (.string u.name) (.slice a6 u.len c6)) := set4_below HB6.out HV.out
          refine hK.out _ _ (hB8) (fun hHeld => ?_)
          clear hK K
          rename_i hOld
          clear hOld
          (try simp only [Act.put, List.getElem_toArray, List.getElem_cons_zero, List.getElem_cons_succ, List.setIfInBounds_toArray, List.set_cons_zero, List.set_cons_succ])
          refine wpAnyH_done (by kernel_rfl) ?_ _
          exact ⟨[_, _, _, _, _], v0.heap.size, rfl, (by simp only [putAll, List.setIfInBounds_toArray, List.set_cons_zero, List.set_cons_succ]; rfl), a6, c6, set4_at HZ.out, hB8⟩
      · rintro a' w7 ⟨l, bb, hl, rfl, a6, c6, hbb, hB7⟩
        obtain ⟨l0, l1, l2, l3, l4, rfl⟩ := list5 hl
        simp only [putAll, List.setIfInBounds_toArray, List.set_cons_zero, List.set_cons_succ]
        obtain ⟨⟨z0, z1, z2, z3⟩, _⟩ := blk4 hbb
        have HB7 : Hid (Below W.heap.size W w7) := mem_then HB.out hB7
        have HOWN7 : Hid (w7.ownsRow W.heap.size 9 1 (.slice va m.length vc) m.length (m.map Value.string)) := own_below HOWN.out hB7
        have HSN : Hid (p.take (j + 1) = p.take j ++ [p.getD j 0]) := take_next p j hlt
        obtain ⟨n, hn⟩ : ∃ n, m.length = n := ⟨_, rfl⟩
        have HMN := Lib.hid hn
        have hnl : n ≤ 1000000 := by have := HML.out; have := HPL.out; omega
        rw [hn] at HOWN7 ⊢
        have HNX : Hid (aroundP k t (p.take (j + 1)) = m ++ if u.kind = k then [u.name] else []) := by
          show _ = _
          rw [HSN.out, aroundP_snoc HU.out, HM.out]
        clear hl hbb hB7 hn
        by_cases hkk : u.kind = k
        · have hb : (u.kind == k) = true := by simp [hkk]
          have HNX2 : Hid (aroundP k t (p.take (j + 1)) = m ++ [u.name]) := by show _ = _; rw [HNX.out, if_pos hkk]
          clear hkk
          go_wp2_with (at_builtin; refine wpList_append_src _ rfl (.tmp 25) (.tmp 28) 40 rfl W.heap.size 9 ti _ 1 16 Tryd.underlying40 hti hz0 hz1 hz2 rfl (by decide) (.slice va n vc) n (m.map Value.string) rfl (own_below HOWN7.out (mem_alloc _ _)) (some ⟨w7.heap.size, 0, none⟩) 1 1 [.string u.name] rfl (one_src (cs := [.string u.name]) (n := 1) (mem_new _ _) rfl) (by simp [Value.oneCell']) (by unfold maxLen; omega) (by omega) (by have := HB7.out.size; simp; omega) ?_)
          intro v9 w9 hown9 hgrow9 _
          have hB9 : Below W.heap.size W w9 := (mem_then HB7.out (mem_alloc _ _)).grown hgrow9 (mem_then HB7.out (mem_alloc _ _)).size (fun b hb => (own_lt HOWN7.out hb).1)
          have HOWN9 : Hid (w9.ownsRow W.heap.size 9 1 v9 (m ++ [u.name]).length ((m ++ [u.name]).map Value.string)) := by
            show World.ownsRow _ _ _ _ _ _ _
            rw [List.length_append, List.map_append, HMN.out]
            exact hown9
          have HB9 := Lib.hid hB9
          have HSZ9 : Hid (∀ s ∈ m ++ [u.name], s.size ≤ 9223372036854775807) := fun s hs => by
            rcases List.mem_append.1 hs with hs | hs
            · exact HSZ.out s hs
            · obtain rfl := List.mem_singleton.1 hs
              exact HUF.out.name
          clear hown9 hgrow9 hB9 z0 z1 z2 z3
          go_wp2_with fail
          go_roundw
          case rel => exact ⟨j + 1, m ++ [u.name], by omega, by go_num, HNX2.out.symm, HOWN9.out, HSZ9.out, HB9.out⟩
          case measure => simp [intOf]; omega
        · have hb : (u.kind == k) = false := by simpa using hkk
          have HNX2 : Hid (aroundP k t (p.take (j + 1)) = m) := by show _ = _; rw [HNX.out, if_neg hkk, List.append_nil]
          have HOWN8 : Hid (w7.ownsRow W.heap.size 9 1 (.slice va n vc) m.length (m.map Value.string)) := by show World.ownsRow _ _ _ _ _ _ _; rw [HMN.out]; exact HOWN7.out
          clear hkk
          go_wp2_with fail
          go_roundw
          case rel => exact ⟨j + 1, m, by omega, by go_num, HNX2.out.symm, HOWN8.out, HSZ.out, HB7.out⟩
          case measure => simp [intOf]; omega
    · obtain rfl : j = p.length := by omega
      obtain ⟨va, vc, rfl⟩ := own_val hown
      clear hm hown hsz hB
      go_wp2_with fail
      go_ret
      have hm := HM.out
      rw [List.take_length] at hm
      subst hm
      exact ⟨va, vc, rfl, strs_own HOWN.out HSZ.out, HBW.out.trans (HB.out.mono HBW.out.size)⟩
/-- the last element of a path; the node above -/
theorem place15_any (t u0 : Tree) (p : List Int) (w : World) (a pa : Option Addr) (c pc : Nat) (hr : Rep w t a) (hp : IRow w pa p) (hpc : p.length ≤ pc) (hpl : p.length ≤ 1000000) (h0 : t.at p = some u0) :
    Calls Tryd.prog 80 #[t.val a c, .slice pa p.length pc] w fun e w' => e = .returned (.bool (placeP t p)) ∧ Below w.heap.size w w' := by
  obtain ⟨W, hW⟩ : ∃ W : World, w.alloc (boxObj t a c) = W := ⟨_, rfl⟩
  have hBW : Below w.heap.size w W := by rw [← hW]; exact mem_alloc _ _
  have hX : W.heap[w.heap.size]? = some (boxObj t a c) := by rw [← hW]; exact mem_new _ _
  have HR := Lib.hid (hr.below hBW)
  have HP := Lib.hid (hp.below hBW)
  have HBW := Lib.hid hBW
  have HX := Lib.hid hX
  clear hr hp hBW hX
  go_enter Tryd.func80, Tryd.ntmps80
  rcases List.eq_nil_or_concat p with rfl | ⟨q, i, rfl⟩
  · have HE : Hid (placeP t [] = false) := by show _ = _; unfold placeP; rfl
    have hz : (((([] : List Int).length : Nat) : Int) == 0) = true := rfl
    go_wp2_with fail
    go_ret
    exact ⟨by rw [HE.out]; rfl, HBW.out⟩
  · have hln : (q.concat i).length = q.length + 1 := by simp
    obtain ⟨n, hn⟩ : ∃ n, q.length = n := ⟨_, rfl⟩
    obtain ⟨pb, po, rfl, hcell⟩ := HP.out.2 n (by rw [hln, hn]; omega)
    have hgi : (q.concat i).getD n 0 = i := by rw [← hn]; simp
    rw [hgi] at hcell
    obtain ⟨u, hu⟩ : ∃ u, t.at q = some u := by
      have := at_take h0 q.length
      simpa using this
    have HPL : Hid (placeP t (q.concat i) = (decide (i = 0) && (decide (u.kind = 40) || decide (u.kind = 44)))) := by
      show _ = _
      unfold placeP
      simp [hu]
    obtain ⟨pp, hpp⟩ : ∃ pp, placeP t (q.concat i) = pp := ⟨_, rfl⟩
    rw [hpp] at HPL ⊢
    have HNODE : Hid (∀ w', Below W.heap.size W w' → Calls Tryd.prog 55 #[t.val a c, .slice (some ⟨pb, po, none⟩) n pc] w' fun e w'' => ∃ a' c', e = .returned (u.val a' c') ∧ Rep w'' u a' ∧ Below w'.heap.size w' w'') := fun w' h => by
      have h9 := node15_any t u q w' a (some ⟨pb, po, none⟩) c pc (HR.out.below h) (by have := (HP.out.below h).take n; rwa [show (q.concat i).take n = q by rw [← hn]; simp] at this) hu
      rw [hn] at h9
      exact h9
    rw [hln, hn] at hpc hpl ⊢
    have HCELL := Lib.hid hcell
    have hn1 : ((((n + 1 : Nat) : Nat) : Int) == 0) = false := by simp; omega
    have hn2 : (0 : Int) ≤ (n : Int) := by omega
    have hn3 : (n : Int) < ((n + 1 : Nat) : Int) := by omega
    have hn4 : ((n + 1 : Nat) : Int) - 1 = (n : Int) := by omega
    clear hgi hu hn hln h0 hpp
    by_cases hi : i = 0
    · subst hi
      go_wp2_with fail
      clear hW
      refine wp_region_held_drew (S := fun w' => Below W.heap.size W w') (by kernel_rfl) ((Below.refl _ _).drew) (fun hHeld => ?_)
      generalize hwd : World.drew _ = v0 at hHeld ⊢
      clear hwd
      have hn5 : n ≤ pc := by omega
      have hn6 : (n : Int) ≤ (pc : Int) := by omega
      refine wpAnyH_take (i := 0) (v := t.val a c) rfl (by kernel_rfl) (by kernel_rfl) (by kernel_rfl) (fun _ _ _ h => h) (Or.inl ⟨by rfl, ?_⟩) (by assumption) ?_
      · intro w' hSw; have hx := mem_keep HX.out hSw; obtain ⟨⟨z0, z1, z2, z3⟩, _⟩ := blk4 hx; go_simp
      (try simp only [Act.put, List.getElem_toArray, List.getElem_cons_zero, List.setIfInBounds_toArray, List.set_cons_zero, List.set_cons_succ])
      refine wpAnyH_take (i := 1) (v := .slice (some ⟨pb, po, none⟩) (n + 1) pc) rfl (by kernel_rfl) (by kernel_rfl) (by kernel_rfl) (fun _ _ _ h => h) (Or.inl ⟨by rfl, ?_⟩) (by assumption) ?_
      · intro w' hSw; go_simp
      (try simp only [Act.put, List.getElem_toArray, List.getElem_cons_zero, List.getElem_cons_succ, List.setIfInBounds_toArray, List.set_cons_zero, List.set_cons_succ])
      refine wpAnyH_take (i := 2) (v := .slice (some ⟨pb, po, none⟩) (n + 1) pc) rfl (by kernel_rfl) (by kernel_rfl) (by kernel_rfl) (fun _ _ _ h => h) (Or.inl ⟨by rfl, ?_⟩) (by assumption) ?_
      · intro w' hSw; go_simp
      (try simp only [Act.put, List.getElem_toArray, List.getElem_cons_zero, List.getElem_cons_succ, List.setIfInBounds_toArray, List.set_cons_zero, List.set_cons_succ])
      refine wpAnyH_take (i := 3) (v := .int .i64 ((n : Int) + 1)) rfl (by kernel_rfl) (by kernel_rfl) (by kernel_rfl) (fun _ _ _ h => h) (Or.inl ⟨by rfl, ?_⟩) (by assumption) ?_
      · intro w' hSw; go_simp
      (try simp only [Act.put, List.getElem_toArray, List.getElem_cons_zero, List.getElem_cons_succ, List.setIfInBounds_toArray, List.set_cons_zero, List.set_cons_succ])
      refine wpAnyH_take (i := 4) (v := .int .i64 (n : Int)) rfl (by kernel_rfl) (by kernel_rfl) (by kernel_rfl) (fun _ _ _ h => h) (Or.inl ⟨by rfl, ?_⟩) (by assumption) ?_
      · intro w' hSw; go_simp; (rw [IntKind.wrap_i64]; omega)
      (try simp only [Act.put, List.getElem_toArray, List.getElem_cons_zero, List.getElem_cons_succ, List.setIfInBounds_toArray, List.set_cons_zero, List.set_cons_succ])
      refine wpAnyH_take (i := 5) (v := .slice (some ⟨pb, po, none⟩) n pc) rfl (by kernel_rfl) (by kernel_rfl) (by kernel_rfl) (fun _ _ _ h => h) (Or.inl ⟨by rfl, ?_⟩) (by assumption) ?_
      · intro w' hSw; go_simp
      (try simp only [Act.put, List.getElem_toArray, List.getElem_cons_zero, List.getElem_cons_succ, List.setIfInBounds_toArray, List.set_cons_zero, List.set_cons_succ])
      refine wpAnyH_ready (rs := [6]) (by kernel_rfl) (by simp) (AllReadyH.cons rfl (fun K hK => ?_) AllReadyH.nil)
      go_simp
      have h9 := HNODE.out v0 hHeld
      refine h9.mono ?_
      clear h9
      rintro e w6 ⟨a6, c6, rfl, _, hB6⟩
      have HB6 := Lib.hid (mem_then hHeld hB6)
      clear hB6
      refine hK.out _ _ (HB6.out) (fun hHeld => ?_)
      clear hK K
      rename_i hOld
      clear hOld
      (try simp only [Act.put, List.getElem_toArray, List.getElem_cons_zero, List.getElem_cons_succ, List.setIfInBounds_toArray, List.set_cons_zero, List.set_cons_succ])
      have hfd : ∀ w : World, (Instr.field 43 (u.val a6 c6) 0).run Tryd.prog w = .ok (.int .u8 u.kind) w := fun _ => by kernel_rfl
      refine wpAnyH_take (i := 7) (v := .int .u8 u.kind) rfl (by kernel_rfl) (by kernel_rfl) (by kernel_rfl) (fun _ _ _ h => h) (Or.inl ⟨by rfl, ?_⟩) (by assumption) ?_
      · intro w' hSw; go_simp
      (try simp only [Act.put, List.getElem_toArray, List.getElem_cons_zero, List.getElem_cons_succ, List.setIfInBounds_toArray, List.set_cons_zero, List.set_cons_succ])
      clear hfd
      refine wpAnyH_ready (rs := [8]) (by kernel_rfl) (by simp) (AllReadyH.cons rfl (fun K hK => ?_) AllReadyH.nil)
      go_simp
      refine hK.out _ _ (HB6.out) (fun hHeld => ?_)
      clear hK K
      rename_i hOld
      clear hOld
      (try simp only [Act.put, List.getElem_toArray, List.getElem_cons_zero, List.getElem_cons_succ, List.setIfInBounds_toArray, List.set_cons_zero, List.set_cons_succ])
      refine wpAnyH_done (by kernel_rfl) ?_ _
      have HE6 : Hid (Below w.heap.size w w6) := HBW.out.trans (HB6.out.mono HBW.out.size)
      by_cases h1 : u.kind = 40
      · have hb1 : (u.kind == 40) = true := by simp [h1]
        have HE : Hid (pp = true) := by show _ = _; rw [HPL.out, decide_eq_true h1]; rfl
        clear h1
        go_wp2_with fail
        go_ret
        exact ⟨by rw [HE.out]; rfl, HE6.out⟩
      · have hb1 : (u.kind == 40) = false := by simpa using h1
        by_cases h2 : u.kind = 44
        · have hb2 : (u.kind == 44) = true := by simp [h2]
          have HE : Hid (pp = true) := by show _ = _; rw [HPL.out, decide_eq_true h2]; simp
          clear h1 h2
          go_wp2_with fail
          go_ret
          exact ⟨by rw [HE.out]; rfl, HE6.out⟩
        · have hb2 : (u.kind == 44) = false := by simpa using h2
          have HE : Hid (pp = false) := by show _ = _; rw [HPL.out, decide_eq_false h1, decide_eq_false h2]; rfl
          clear h1 h2
          go_wp2_with fail
          go_ret
          exact ⟨by rw [HE.out]; rfl, HE6.out⟩
    · have hi1 : (i != 0) = true := by simpa using hi
      have HE : Hid (pp = false) := by show _ = _; rw [HPL.out, decide_eq_false hi]; rfl
      clear hi
      go_wp2_with fail
      go_ret
      exact ⟨by rw [HE.out]; rfl, HBW.out⟩
end Go.Proofs.YtnegdmhmhdojbaaDoor
