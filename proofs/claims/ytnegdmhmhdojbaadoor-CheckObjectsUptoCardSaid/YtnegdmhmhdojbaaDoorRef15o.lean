/-
  Contract of the reference (package ontimeref15): Objects.
-/
import Derived.Test.YtnegdmhmhdojbaaDoorRef15e
import Derived.Test.YtnegdmhmhdojbaaDoorChkObjs
namespace Go.Proofs.YtnegdmhmhdojbaaDoor
set_option linter.unusedVariables false
set_option linter.unusedSimpArgs false
open Go.RowKit
set_option maxRecDepth 100000
set_option maxHeartbeats 16000000

theorem refobjs_any (t : Tree) (w : World) (a : Option Addr) (c : Nat) (hr : Rep w t a) (hs : t.size ≤ 10000) :
    Calls Tryd.prog 26 #[t.val a c] w fun e w' => ∃ v, e = .returned v ∧ NRow w.heap.size w' v (objT [] t) ∧ Below w.heap.size w w' := by
  obtain ⟨ti, hti, hz0, hz1, hz2⟩ := info_parts ostr_info
  obtain ⟨W, hW⟩ : ∃ W : World, w.alloc (boxObj t a c) = W := ⟨_, rfl⟩
  have hB : Below w.heap.size w W := by rw [← hW]; exact mem_alloc _ _
  have hX : W.heap[w.heap.size]? = some (boxObj t a c) := by rw [← hW]; exact mem_new _ _
  have HBW := Lib.hid hB
  have HX := Lib.hid hX
  have HR := Lib.hid (hr.below hB)
  have hlt := mem_lt hX
  obtain ⟨⟨n0, n1, n2, n3⟩, _⟩ := blk4 hX
  have HTOP := Lib.hid (paths15_top W.heap.size t W a c HR.out (Nat.le_refl _) (by omega) (by have := t.depth_le_size; omega))
  have HS := Lib.hid hs
  obtain ⟨l, hl⟩ : ∃ l, objT [] t = l := ⟨_, rfl⟩
  have HL := Lib.hid hl
  rw [hl]
  clear hr hs hB hX hl
  go_enter Tryd.func26, Tryd.ntmps26
  go_wp2_with fail
  clear hW n0 n1 n2 n3
  have h9 := HTOP.out
  refine h9.mono ?_
  clear h9
  obtain ⟨PL, hPL⟩ : ∃ PL, pathsP t [] = PL := ⟨_, rfl⟩
  have HPL := Lib.hid hPL
  have hpll : PL.length ≤ 10000 := by rw [← hPL]; unfold pathsP; rw [List.length_map, items_len]; exact HS.out
  rw [hPL]
  clear hPL
  rintro e w6 ⟨v6, vs6, rfl, h6, hB6⟩
  have HP6 := Lib.hid h6
  have HB6 := Lib.hid hB6
  obtain ⟨va6, vc6, rfl⟩ := own_val h6.own
  clear h6 hB6
  go_wp2_with fail
  go_loopw [3, 5] (fun v iv wq => ∃ (k : Nat) (m : List ByteArray), k ≤ PL.length ∧ iv = .int .i64 (k : Int) ∧ m = objL [] ((t.items []).take k) ∧ NRow W.heap.size wq v m ∧ PRowN W.heap.size W.heap.size wq (.slice va6 PL.length vc6) PL vs6 ∧ Below W.heap.size W wq) (fun _ iv _ => PL.length - (intOf iv).toNat)
  case atStart => exact ⟨0, [], Nat.zero_le _, rfl, by rw [List.take_zero]; rfl, ⟨World.ownsRow_nil _ _ _ _, by simp⟩, HP6.out, HB6.out⟩
  case round =>
    clear HP6 HB6
    obtain ⟨k, m, hk, rfl, hm, hrow, hpr, hBr⟩ := hrel
    have HM := Lib.hid hm
    have HROW := Lib.hid hrow
    have HPR := Lib.hid hpr
    have HBK := Lib.hid hBr
    have hk0 : (0 : Int) ≤ (k : Int) := by omega
    have hml : m.length ≤ 10000 := by
      have h := objL_le ((t.items []).take k) []
      rw [← hm, List.length_take] at h
      simp only [List.length_nil] at h
      omega
    have HML := Lib.hid hml
    obtain ⟨v1, c1, rfl⟩ := own_val hrow.row
    clear hm hrow hBr hml
    by_cases hlk : k < PL.length
    · have hlk2 : (k : Int) < (PL.length : Int) := by omega
      obtain ⟨pb, rfl, hpb, _⟩ := own_at hpr.own (by omega)
      obtain ⟨pk, hpk⟩ : ∃ q, PL[k]? = some q := ⟨_, List.getElem?_eq_getElem hlk⟩
      obtain ⟨uk, huk⟩ : ∃ u, vs6[k]? = some u := ⟨_, List.getElem?_eq_getElem (by rw [hpr.len]; exact hlk)⟩
      have hpv := hpr.each k pk uk hpk huk
      obtain ⟨pa, pc, rfl⟩ := own_val hpv
      have HPV := Lib.hid hpv
      have HUK := Lib.hid huk
      rw [← HPL.out] at hpk
      obtain ⟨n, hin, hat⟩ := path_item hpk
      have HAT := Lib.hid hat
      have hfit : n.name.size ≤ 9223372036854775807 ∧ n.len ≤ 9223372036854775807 := by
        obtain ⟨b, hb⟩ := at_rep (HR.out.below HBK.out) hat
        have h1 := hb.fits.name
        have h2 := hb.fits.len
        exact ⟨h1, h2⟩
      have HFIT := Lib.hid hfit
      have HNX : Hid (objL [] ((t.items []).take (k + 1)) = objN m n) := by
        show _ = _
        rw [List.take_add_one, hin, objL_append, ← HM.out]
        rfl
      have HNODE : Hid (∀ w', Below wr.heap.size wr w' → w'.cell? ⟨pb, k, none⟩ = some (.slice pa pk.length pc) ∧ w'.heap[w.heap.size]? = some (boxObj t a c) ∧ Calls Tryd.prog 55 #[t.val a c, .slice pa pk.length pc] w' fun e w'' => ∃ a' c', e = .returned (n.val a' c') ∧ Rep w'' n a' ∧ Below w'.heap.size w' w'') := fun w' h =>
        ⟨cell_below h (own_get HPR.out.own HUK.out), mem_keep HX.out (mem_then HBK.out h), node15_any t n pk w' a pa c pc (HR.out.below (mem_then HBK.out h)) (PathV.row (own_below HPV.out h)) HAT.out⟩
      clear hpr hpb hpk huk hpv hin hat hfit
      go_wp2_with fail
      refine cut_runA (RunEnd2 15 6 6 (fun bb w' => ∃ a6 c6, w'.heap[bb]? = some (boxObj n a6 c6) ∧ Below wr.heap.size wr w')) ?_ ?_
      · refine wp_region_held_drew (S := fun w' => Below wr.heap.size wr w') (by kernel_rfl) ((Below.refl _ _).drew) (fun hHeld => ?_)
        generalize hwd : World.drew _ = v0 at hHeld ⊢
        clear hwd
        refine wpAnyH_take (i := 0) (v := t.val a c) rfl (by kernel_rfl) (by kernel_rfl) (by kernel_rfl) (fun _ _ _ h => h) (Or.inl ⟨by rfl, ?_⟩) (by assumption) ?_
        · intro w' hSw; obtain ⟨_, hx, _⟩ := HNODE.out _ hSw; obtain ⟨⟨z0, z1, z2, z3⟩, _⟩ := blk4 hx; go_simp
        (try simp only [Act.put, List.getElem_toArray, List.getElem_cons_zero, List.setIfInBounds_toArray, List.set_cons_zero, List.set_cons_succ])
        refine wpAnyH_take (i := 1) (v := .slice (some ⟨pb, 0, none⟩) PL.length vc6) rfl (by kernel_rfl) (by kernel_rfl) (by kernel_rfl) (fun _ _ _ h => h) (Or.inl ⟨by rfl, ?_⟩) (by assumption) ?_
        · intro w' hSw; go_simp
        (try simp only [Act.put, List.getElem_toArray, List.getElem_cons_zero, List.getElem_cons_succ, List.setIfInBounds_toArray, List.set_cons_zero, List.set_cons_succ])
        refine wpAnyH_take (i := 2) (v := .int .i64 (k : Int)) rfl (by kernel_rfl) (by kernel_rfl) (by kernel_rfl) (fun _ _ _ h => h) (Or.inl ⟨by rfl, ?_⟩) (by assumption) ?_
        · intro w' hSw; go_simp
        (try simp only [Act.put, List.getElem_toArray, List.getElem_cons_zero, List.getElem_cons_succ, List.setIfInBounds_toArray, List.set_cons_zero, List.set_cons_succ])
        refine wpAnyH_take (i := 3) (v := .pointer (some ⟨pb, k, none⟩)) rfl (by kernel_rfl) (by kernel_rfl) (by kernel_rfl) (fun _ _ _ h => h) (Or.inl ⟨by rfl, ?_⟩) (by assumption) ?_
        · intro w' hSw; go_simp
        (try simp only [Act.put, List.getElem_toArray, List.getElem_cons_zero, List.getElem_cons_succ, List.setIfInBounds_toArray, List.set_cons_zero, List.set_cons_succ])
        refine wpAnyH_take (i := 4) (v := .slice pa pk.length pc) rfl (by kernel_rfl) (by kernel_rfl) (by kernel_rfl) (fun _ _ _ h => h) (Or.inl ⟨by rfl, ?_⟩) (by assumption) ?_
        · intro w' hSw; obtain ⟨z0, _⟩ := HNODE.out _ hSw; go_simp
        (try simp only [Act.put, List.getElem_toArray, List.getElem_cons_zero, List.getElem_cons_succ, List.setIfInBounds_toArray, List.set_cons_zero, List.set_cons_succ])
        refine wpAnyH_ready (rs := [5, 6]) (by kernel_rfl) (by simp) (AllReadyH.cons rfl (fun K hK => ?_) (AllReadyH.cons rfl (fun K hK => ?_) AllReadyH.nil))
        · go_simp
          have h9 := (HNODE.out v0 hHeld).2.2
          refine h9.mono ?_
          clear h9
          rintro e w7 ⟨a6, c6, rfl, hr6, hB6⟩
          have HB6 := Lib.hid (mem_then hHeld hB6)
          clear hr6 hB6
          refine hK.out _ _ (HB6.out) (fun hHeld => ?_)
          clear hK K
          rename_i hOld
          clear hOld
          (try simp only [Act.put, List.getElem_toArray, List.getElem_cons_zero, List.getElem_cons_succ, List.setIfInBounds_toArray, List.set_cons_zero, List.set_cons_succ])
          refine wpAnyH_ready (rs := [6]) (by kernel_rfl) (by simp) (AllReadyH.cons rfl (fun K hK => ?_) AllReadyH.nil)
          go_simp
          have hB7 : Below wr.heap.size wr (w7.alloc (boxObj noTree none 0)) := mem_then HB6.out (mem_alloc _ _)
          refine hK.out _ _ (hB7) (fun hHeld => ?_)
          clear hK K
          rename_i hOld
          clear hOld
          (try simp only [Act.put, List.getElem_toArray, List.getElem_cons_zero, List.getElem_cons_succ, List.setIfInBounds_toArray, List.set_cons_zero, List.set_cons_succ])
          refine wpAnyH_ready (rs := [7]) (by kernel_rfl) (by simp) (AllReadyH.cons rfl (fun K hK => ?_) AllReadyH.nil)
          go_simp
          have hB8 : Below wr.heap.size wr (w7.alloc (boxObj n a6 c6)) := mem_then HB6.out (mem_alloc _ _)
          refine hK.out _ _ (hB8) (fun hHeld => ?_)
          clear hK K
          rename_i hOld
          clear hOld
          (try simp only [Act.put, List.getElem_toArray, List.getElem_cons_zero, List.getElem_cons_succ, List.setIfInBounds_toArray, List.set_cons_zero, List.set_cons_succ])
          refine wpAnyH_done (by kernel_rfl) ?_ _
          exact ⟨[_, _, _, _, _, _], w7.heap.size, rfl, (by simp only [putAll, List.setIfInBounds_toArray, List.set_cons_zero, List.set_cons_succ]; rfl), a6, c6, mem_new _ _, hB8⟩
        · go_simp
          have HV : Hid (wr.heap.size ≤ v0.heap.size) := hHeld.size
          have hB5 : Below wr.heap.size wr (v0.alloc (boxObj noTree none 0)) := mem_then hHeld (mem_alloc _ _)
          refine hK.out _ _ (hB5) (fun hHeld => ?_)
          clear hK K
          rename_i hOld
          clear hOld
          (try simp only [Act.put, List.getElem_toArray, List.getElem_cons_zero, List.getElem_cons_succ, List.setIfInBounds_toArray, List.set_cons_zero, List.set_cons_succ])
          refine wpAnyH_ready (rs := [5]) (by kernel_rfl) (by simp) (AllReadyH.cons rfl (fun K hK => ?_) AllReadyH.nil)
          go_simp
          have h9 := (HNODE.out _ hB5).2.2
          refine h9.mono ?_
          clear h9
          rintro e w7 ⟨a6, c6, rfl, hr6, hB6⟩
          have hZ : w7.heap[v0.heap.size]? = some (boxObj noTree none 0) := mem_keep (mem_new _ _) hB6
          have HZ := Lib.hid hZ
          have HB6 := Lib.hid (mem_then hB5 hB6)
          clear hr6 hB6 hZ
          refine hK.out _ _ (HB6.out) (fun hHeld => ?_)
          clear hK K
          rename_i hOld
          clear hOld
          (try simp only [Act.put, List.getElem_toArray, List.getElem_cons_zero, List.getElem_cons_succ, List.setIfInBounds_toArray, List.set_cons_zero, List.set_cons_succ])
          obtain ⟨⟨z0, z1, z2, z3⟩, q0, q1, q2, q3⟩ := blk4 HZ.out
          refine wpAnyH_ready (rs := [7]) (by kernel_rfl) (by simp) (AllReadyH.cons rfl (fun K hK => ?_) AllReadyH.nil)
          go_simp
          have hB8 : Below wr.heap.size wr (set4 w7 v0.heap.size (.int .u8 n.kind) (.int .i64 n.num) (.string n.name) (.slice a6 n.len c6)) := set4_below HB6.out HV.out
          refine hK.out _ _ (hB8) (fun hHeld => ?_)
          clear hK K
          rename_i hOld
          clear hOld
          (try simp only [Act.put, List.getElem_toArray, List.getElem_cons_zero, List.getElem_cons_succ, List.setIfInBounds_toArray, List.set_cons_zero, List.set_cons_succ])
          refine wpAnyH_done (by kernel_rfl) ?_ _
          exact ⟨[_, _, _, _, _, _], v0.heap.size, rfl, (by simp only [putAll, List.setIfInBounds_toArray, List.set_cons_zero, List.set_cons_succ]; rfl), a6, c6, set4_at HZ.out, hB8⟩
      · rintro a' w7 ⟨ll, bb, hll, rfl, a6, c6, hbb, hB7⟩
        obtain ⟨l0, l1, l2, l3, l4, l5, rfl⟩ := list6 hll
        simp only [putAll, List.setIfInBounds_toArray, List.set_cons_zero, List.set_cons_succ]
        obtain ⟨⟨z0, z1, z2, z3⟩, _⟩ := blk4 hbb
        have HBB := Lib.hid hbb
        have HB7 : Hid (Below W.heap.size W w7) := mem_then HBK.out hB7
        have HROW7 := Lib.hid (HROW.out.keep hB7)
        have HPR7 := Lib.hid (HPR.out.keep hB7)
        have hfl := HFIT.out.2
        clear hll hbb hB7
        by_cases k46 : n.kind = 46
        · have k46' : (n.kind == 46) = true := by simp [k46]
          have HIN : Hid (Calls Tryd.prog 56 #[.slice v1 m.length c1, .string n.name] w7 fun e w'' => e = .returned (.bool (memB m n.name)) ∧ Below w7.heap.size w7 w'') :=
            in15_any m n.name w7 v1 c1 (strs_own HROW7.out.row HROW7.out.sizes)
          obtain ⟨mm, hmm⟩ : ∃ b, memB m n.name = b := ⟨_, rfl⟩
          rw [hmm] at HIN
          have HNY : Hid (objN m n = if mm = true then m else m ++ [n.name]) := by show _ = _; unfold objN; rw [hmm]; cases mm <;> simp [k46]
          clear hmm k46
          go_wp2_with fail
          have h9 := HIN.out
          refine h9.mono ?_
          clear h9 z0 z1 z2 z3
          rintro e w8 ⟨rfl, hB8⟩
          have HBB8 := Lib.hid (mem_keep HBB.out hB8)
          have HB8 : Hid (Below W.heap.size W w8) := mem_then HB7.out hB8
          have HROW8 := Lib.hid (HROW7.out.keep hB8)
          have HPR8 := Lib.hid (HPR7.out.keep hB8)
          clear hB8
          cases mm with
          | true =>
            have HNZ : Hid (objL [] ((t.items []).take (k + 1)) = m) := by show _ = _; rw [HNX.out, HNY.out]; rfl
            go_wp2_with fail
            go_roundw
            case rel => exact ⟨k + 1, m, by omega, by go_num, HNZ.out.symm, HROW8.out, HPR8.out, HB8.out⟩
            case measure => simp [intOf]; omega
          | false =>
            have HNZ : Hid (objL [] ((t.items []).take (k + 1)) = m ++ [n.name]) := by show _ = _; rw [HNX.out, HNY.out]; rfl
            obtain ⟨⟨z0, z1, z2, z3⟩, _⟩ := blk4 HBB8.out
            obtain ⟨j, hj⟩ : ∃ j, m.length = j := ⟨_, rfl⟩
            have HJ := Lib.hid hj
            have hjl : j ≤ 100000 := by have := HML.out; omega
            have HRO : Hid (w8.ownsRow W.heap.size 9 1 (.slice v1 j c1) j (m.map Value.string)) := by show World.ownsRow _ _ _ _ _ _ _; rw [← hj]; exact HROW8.out.row
            rw [hj]
            clear hj
            go_wp2_with (at_builtin; refine wpList_append_src _ rfl (.tmp 31) (.tmp 34) 40 rfl W.heap.size 9 ti _ 1 16 Tryd.underlying40 hti hz0 hz1 hz2 rfl (by decide) (.slice v1 j c1) j (m.map Value.string) rfl (own_below HRO.out (mem_alloc _ _)) (some ⟨w8.heap.size, 0, none⟩) 1 1 [.string n.name] rfl (one_src (cs := [.string n.name]) (n := 1) (mem_new _ _) rfl) (by simp [Value.oneCell']) (by unfold maxLen; omega) (by omega) (by have := HB8.out.size; simp; omega) ?_)
            intro v9 w9 hown9 hgrow9 _
            have hal := mem_alloc w8 (.cells #[.string n.name] 9)
            have HPR9 := Lib.hid ((HPR8.out.keep hal).beside (own_below HRO.out hal) (by decide) (by decide) hgrow9)
            have HROW9 : Hid (NRow W.heap.size w9 v9 (m ++ [n.name])) := ⟨by rw [List.length_append, List.map_append, HJ.out]; exact hown9, fun s hs => by
              rcases List.mem_append.1 hs with hs | hs
              · exact HROW8.out.sizes s hs
              · obtain rfl := List.mem_singleton.1 hs
                exact HFIT.out.1⟩
            have HB9 := Lib.hid ((mem_then HB8.out hal).grown hgrow9 (mem_then HB8.out hal).size (fun b hb => (own_lt HRO.out hb).1))
            clear hown9 hgrow9 hal z0 z1 z2 z3
            go_wp2_with fail
            go_roundw
            case rel => exact ⟨k + 1, m ++ [n.name], by omega, by go_num, HNZ.out.symm, HROW9.out, HPR9.out, HB9.out⟩
            case measure => simp [intOf]; omega
        · have k46' : (n.kind == 46) = false := by simpa using k46
          have HNZ : Hid (objL [] ((t.items []).take (k + 1)) = m) := by show _ = _; rw [HNX.out]; unfold objN; simp [k46]
          clear k46
          go_wp2_with fail
          go_roundw
          case rel => exact ⟨k + 1, m, by omega, by go_num, HNZ.out.symm, HROW7.out, HPR7.out, HB7.out⟩
          case measure => simp [intOf]; omega
    · obtain rfl : k = PL.length := by omega
      have HEND : Hid (m = l) := by
        show _ = _
        rw [HM.out, ← HL.out, List.take_of_length_le (by rw [← HPL.out]; unfold pathsP; simp)]
        rfl
      clear hpr
      go_wp2_with fail
      go_ret
      have hm := HEND.out
      subst hm
      exact ⟨_, rfl, HROW.out.base HBW.out.size, HBW.out.trans (HBK.out.mono HBW.out.size)⟩
end Go.Proofs.YtnegdmhmhdojbaaDoor
