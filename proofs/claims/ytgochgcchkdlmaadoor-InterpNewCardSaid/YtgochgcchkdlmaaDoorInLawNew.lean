/-
  The law InterpNew (package ontimelaw16).
-/
import Derived.Test.YtgochgcchkdlmaaDoorInAwake
import Derived.Test.YtgochgcchkdlmaaDoorInRun
import Derived.Test.YtgochgcchkdlmaaDoorInEqs
namespace Go.Proofs.YtgochgcchkdlmaaDoor
set_option linter.unusedVariables false
set_option linter.unusedSimpArgs false
open Go.RowKit Go.Maps
set_option maxRecDepth 100000
set_option maxHeartbeats 80000000

/-! ### the law, plainly -/
theorem match_zeros : ∀ {D : List Arr}, (∀ x ∈ D, 0 ≤ x.len) → matchP D (zP D) = true
  | [], _ => rfl
  | x :: D, h => by
    show ((x.len == ((List.replicate x.len.toNat (0 : Int)).length : Int)) && matchP D (zP D)) = true
    rw [match_zeros (fun y hy => h y (List.mem_cons_of_mem _ hy)), List.length_replicate, Bool.and_true, beq_iff_eq]
    have := h x (by simp)
    omega
theorem fits_zeros : ∀ {T : List Tsk}, (∀ t ∈ T, ∀ x ∈ t.arrays, 0 ≤ x.len) → fitsAll T (T.map (fun t => zP t.arrays)) = true
  | [], _ => rfl
  | t :: T, h => by
    show (matchP t.arrays (zP t.arrays) && fitsAll T (T.map (fun t => zP t.arrays))) = true
    rw [match_zeros (h t (by simp)), fits_zeros (fun u hu => h u (List.mem_cons_of_mem _ hu))]
    rfl
theorem fits_ref {p : Prg} {M : Mem} (h : prgOk p = true) : fitsP p M = refFits p M := by
  unfold fitsP refFits
  rw [h, Bool.true_and]
  congr 1
  exact Bool.and_comm _ _
theorem new_fits {p : Prg} (h : prgOk p = true) : refFits p (newP p) = true := by
  have hp := prgOk_le h
  have h1 : ∀ x ∈ p.shared, 0 ≤ x.len := fun x hx => by have := (arrOk_le ((prgOk_shared h).2 x hx)).1; omega
  have h2 : ∀ t ∈ p.tasks, ∀ x ∈ t.arrays, 0 ≤ x.len := fun t ht x hx => by
    obtain ⟨k, hk, rfl⟩ := List.getElem_of_mem ht
    have h3 := hp.2.2 k hk
    have e : p.tasks.getD k Tsk.none = p.tasks[k] := by rw [List.getD_eq_getElem?_getD, List.getElem?_eq_getElem hk]; rfl
    rw [e] at h3
    have := (arrOk_le ((tskOk_arrs h3).2 x hx)).1
    omega
  unfold refFits newP
  rw [if_pos h]
  show (decide ((p.tasks.map _).length = _) && (matchP p.shared (zP p.shared) && fitsAll p.tasks (p.tasks.map _))) = true
  rw [match_zeros h1, fits_zeros h2, List.length_map]
  simp
theorem zP_zero {D : List Arr} : ∀ r ∈ zP D, ∀ x ∈ r, x = 0 := fun r hr x hx => by
  unfold zP at hr
  obtain ⟨y, _, rfl⟩ := List.mem_map.1 hr
  exact (List.mem_replicate.1 hx).2
theorem new_zero {p : Prg} : (∀ r ∈ (newP p).shared, ∀ x ∈ r, x = 0) ∧ ∀ t ∈ (newP p).arrays, ∀ r ∈ t, ∀ x ∈ r, x = 0 := by
  unfold newP
  split
  · refine ⟨zP_zero, fun t ht => ?_⟩
    obtain ⟨u, _, rfl⟩ := List.mem_map.1 ht
    exact zP_zero
  · exact ⟨fun r hr => (nomatch hr), fun t ht => (nomatch ht)⟩
theorem new_len {p : Prg} (h : prgOk p = true) : (newP p).shared.length ≤ 4 ∧ (newP p).arrays.length ≤ 8 ∧ ∀ t ∈ (newP p).arrays, t.length ≤ 4 := by
  have hp := prgOk_le h
  unfold newP
  rw [if_pos h]
  refine ⟨?_, ?_, fun t ht => ?_⟩
  · show (zP p.shared).length ≤ 4
    unfold zP
    rw [List.length_map]
    exact (prgOk_shared h).1
  · show (p.tasks.map _).length ≤ 8
    rw [List.length_map]
    exact hp.2.1
  · obtain ⟨u, hu, rfl⟩ := List.mem_map.1 ht
    obtain ⟨k, hk, rfl⟩ := List.getElem_of_mem hu
    have h3 := hp.2.2 k hk
    have e : p.tasks.getD k Tsk.none = p.tasks[k] := by rw [List.getD_eq_getElem?_getD, List.getElem?_eq_getElem hk]; rfl
    rw [e] at h3
    unfold zP
    rw [List.length_map]
    exact (tskOk_arrs h3).1
/-! ### rows of rows as sources, and rows of the call's own that hold rows read -/
theorem ContAt.src {w : World} {a : Option Addr} {l : List (List Int)} (h : ContAt w a l) : ∃ news : List Value, news.length = l.length ∧ Src w a l.length 1 news ∧ (∀ u ∈ news, u.oneCell' = true) ∧ ∀ (k : Nat) (r : List Int), l[k]? = some r → ∃ ra rc, news[k]? = some (.slice ra r.length rc) ∧ WordsAt w ra r := by
  by_cases h0 : l.length = 0
  · exact ⟨[], by simp [h0], ⟨by rw [h0]; rfl, .inl h0⟩, fun u hu => (nomatch hu), fun k r hr => by have := (List.getElem?_eq_some_iff.1 hr).1; omega⟩
  · obtain ⟨b, off, ha, hk⟩ := h.at_.resolve_left h0
    have hm : ∀ j : Nat, ∃ u : Value, j < l.length → w.cell? ⟨b, off + j, none⟩ = some u ∧ ∃ r ra rc, l[j]? = some r ∧ u = .slice ra r.length rc ∧ WordsAt w ra r := fun j => by
      by_cases hj : j < l.length
      · obtain ⟨ra, rc, h1, _, h3⟩ := hk j _ (List.getElem?_eq_getElem hj)
        exact ⟨_, fun _ => ⟨h1, _, ra, rc, List.getElem?_eq_getElem hj, rfl, h3⟩⟩
      · exact ⟨.bool false, fun h => absurd h hj⟩
    obtain ⟨f, hf⟩ := Classical.axiomOfChoice hm
    refine ⟨(List.range l.length).map f, by simp, ⟨by simp, .inr ⟨_, ha, fun j u hu => ?_⟩⟩, fun u hu => ?_, fun k r hr => ?_⟩
    · rw [List.getElem?_map] at hu
      obtain ⟨k, hk2, rfl⟩ := Option.map_eq_some_iff.1 hu
      obtain ⟨hj, rfl⟩ := List.getElem?_eq_some_iff.1 hk2
      have hj' : j < l.length := by simpa using hj
      have add : (⟨b, off, none⟩ : Addr).add j = ⟨b, off + j, none⟩ := by
        unfold Addr.add
        by_cases h0 : j = 0 <;> simp [h0]
      rw [add]
      simp only [List.getElem_range]
      exact (hf j hj').1
    · obtain ⟨k, hk2, rfl⟩ := List.mem_map.1 hu
      obtain ⟨_, r, ra, rc, _, e, _⟩ := hf k (by simpa using hk2)
      rw [e]
      rfl
    · have hkl := (List.getElem?_eq_some_iff.1 hr).1
      obtain ⟨_, r', ra, rc, h1, e, h3⟩ := hf k hkl
      rw [hr] at h1
      cases h1
      exact ⟨ra, rc, by simp [hkl, e], h3⟩
/-- a row of the call's own, of rows that were there before it -/
structure RowsRd (w0 w : World) (v : Value) (L : List (List Int)) (us : List Value) : Prop where
  len : us.length = L.length
  ro : w.ownsRow w0.heap.size 30 1 v L.length us
  ri : ∀ (k : Nat) (r : List Int), L[k]? = some r → ∃ ra rc, us[k]? = some (.slice ra r.length rc) ∧ WordsAt w0 ra r
theorem RowsRd.push {w0 w2 w : World} {v v2 : Value} {L l : List (List Int)} {us news : List Value} (h : RowsRd w0 w v L us) (hn : news.length = l.length) (hr : ∀ (k : Nat) (r : List Int), l[k]? = some r → ∃ ra rc, news[k]? = some (.slice ra r.length rc) ∧ WordsAt w0 ra r)
    (ho : w2.ownsRow w0.heap.size 30 1 v2 (L.length + l.length) (us ++ news)) : RowsRd w0 w2 v2 (L ++ l) (us ++ news) := by
  refine ⟨by rw [List.length_append, List.length_append, h.len, hn], by rw [List.length_append]; exact ho, fun k r hr2 => ?_⟩
  by_cases hlt : k < L.length
  · rw [List.getElem?_append_left hlt] at hr2
    obtain ⟨ra, rc, h1, h2⟩ := h.ri k r hr2
    exact ⟨ra, rc, by rw [List.getElem?_append_left (by rw [h.len]; exact hlt)]; exact h1, h2⟩
  · rw [List.getElem?_append_right (by omega)] at hr2
    obtain ⟨ra, rc, h1, h2⟩ := hr _ r hr2
    exact ⟨ra, rc, by rw [List.getElem?_append_right (by rw [h.len]; omega), h.len]; exact h1, h2⟩
theorem Src.below {w w' : World} {a : Option Addr} {n size : Nat} {news : List Value} (h : Src w a n size news) (hB : Below w.heap.size w w') : Src w' a n size news :=
  ⟨h.1, h.2.imp id (fun ⟨ad, h1, h2⟩ => ⟨ad, h1, fun j u hu => (hB.cell (World.block_lt_of_cell? w _ (h2 j u hu))).trans (h2 j u hu)⟩)⟩
theorem lawNew_any (p : Prg) (M : Mem) (w : World) (sa ta : Option Addr) (sc tc : Nat) (ma ms : Option Addr) (mac msc : Nat)
    (hp : PrgAt w p sa ta) (hm : MemAt w M ma ms) (hg : SignsIn w) :
    Calls Tryd.prog 4 #[p.val sa sc ta tc, M.val ma mac ms msc] w fun e w' => e = .returned (.bool true) ∧ Below w.heap.size w w' := by
  obtain ⟨i1, hi1, hz10, hz11, hz12⟩ := info_parts row_info
  have hmf := hm.1.fits
  have hmsf := hm.2.fits
  obtain ⟨W, hW⟩ : ∃ W : World, w.alloc (prgObj p sa sc ta tc) = W := ⟨_, rfl⟩
  have hBW : Below w.heap.size w W := by rw [← hW]; exact mem_alloc _ _
  have hXW : W.heap[w.heap.size]? = some (prgObj p sa sc ta tc) := by rw [← hW]; exact mem_new _ _
  obtain ⟨W2, hW2⟩ : ∃ W2 : World, W.alloc (memObj M ma mac ms msc) = W2 := ⟨_, rfl⟩
  have hBW2 : Below W.heap.size W W2 := by rw [← hW2]; exact mem_alloc _ _
  have hXW2 : W2.heap[W.heap.size]? = some (memObj M ma mac ms msc) := by rw [← hW2]; exact mem_new _ _
  have HK : Hid (∀ w', Below W2.heap.size W2 w' → w'.heap[w.heap.size]? = some (prgObj p sa sc ta tc) ∧ w'.heap[W.heap.size]? = some (memObj M ma mac ms msc) ∧ PrgAt w' p sa ta ∧ MemAt w' M ma ms ∧ SignsIn w' ∧ Below w.heap.size w w') := fun w' hw => by
    have hb := mem_then (mem_then hBW hBW2) hw
    exact ⟨mem_keep (mem_keep hXW hBW2) hw, mem_keep hXW2 hw, hp.below hb, hm.below hb, hg.below hb, hb⟩
  have HAW := Lib.hid (awake_any W2 (HK.out W2 (Below.refl _ _)).2.2.2.2.1)
  clear hp hm hg hBW hXW hBW2 hXW2
  go_enter Tryd.func4, Tryd.ntmps4
  go_wp2_with fail
  clear hW hW2
  refine HAW.out.mono ?_
  rintro e w1 ⟨rfl, hB1⟩
  have HB1 := Lib.hid hB1
  obtain ⟨hx1, hx2, hp1, hm1, _, _⟩ := HK.out w1 hB1
  obtain ⟨x0, x1⟩ := mem_two hx1
  obtain ⟨y0, y1⟩ := mem_two hx2
  have HGR := Lib.hid (great16_any p M 0 w1 sa ta sc tc ma ms mac msc none 0 hp1 hm1 (by omega))
  clear HAW hB1 hx1 hx2 hp1 hm1
  go_wp2_with fail
  clear x0 x1 y0 y1
  refine HGR.out.mono ?_
  rintro e w2 ⟨rfl, hB2⟩
  have HB2 := Lib.hid (mem_then HB1.out hB2)
  clear HGR hB2
  cases hbig : bigP p M 0 with
  | true =>
    have hbn := bigN_t hbig
    clear hbig
    go_wp2_with fail
    go_ret
    exact ⟨rfl, (HK.out w2 HB2.out).2.2.2.2.2⟩
  | false =>
  have hbn := bigN_f hbig
  obtain ⟨hx1, _, hp1, _, hg1, _⟩ := HK.out w2 HB2.out
  obtain ⟨x0, x1⟩ := mem_two hx1
  have HNW := Lib.hid (new_any p w2 sa ta sc tc hp1 hg1)
  clear hbig hx1 hp1 hg1
  go_wp2_with fail
  clear x0 x1
  refine HNW.out.mono ?_
  rintro e w4 ⟨ca, cac, cs, csc, rfl, hz, hB4⟩
  obtain ⟨Z, hZ⟩ : ∃ Z, newP p = Z := ⟨_, rfl⟩
  have HZ := Lib.hid hZ
  rw [hZ] at hz ⊢
  have hzf := hz.1.fits
  have hzsf := hz.2.fits
  obtain ⟨V, hV⟩ : ∃ V : World, w4.alloc (memObj Z ca cac cs csc) = V := ⟨_, rfl⟩
  have hBV : Below w4.heap.size w4 V := by rw [← hV]; exact mem_alloc _ _
  have HXZ : Hid (V.heap[w4.heap.size]? = some (memObj Z ca cac cs csc)) := by show _ = _; rw [← hV]; exact mem_new _ _
  have HBV : Hid (Below W2.heap.size W2 V) := mem_then HB2.out (mem_then hB4 hBV)
  have HKV : Hid (∀ w', Below V.heap.size V w' → w'.heap[w.heap.size]? = some (prgObj p sa sc ta tc) ∧ w'.heap[W.heap.size]? = some (memObj M ma mac ms msc) ∧ w'.heap[w4.heap.size]? = some (memObj Z ca cac cs csc) ∧ PrgAt w' p sa ta ∧ MemAt w' M ma ms ∧ MemAt w' Z ca cs ∧ SignsIn w' ∧ Below w.heap.size w w') := fun w' hw => by
    obtain ⟨h1, h2, h3, h4, h5, h6⟩ := HK.out w' (mem_then HBV.out hw)
    exact ⟨h1, h2, mem_keep HXZ.out hw, h3, h4, (hz.below hBV).below hw, h5, h6⟩
  obtain ⟨hx1, _, _, hp1, _, _, hg1, _⟩ := HKV.out V (Below.refl _ _)
  obtain ⟨x0, x1⟩ := mem_two hx1
  have HVA := Lib.hid (valid_any p V sa ta sc tc hp1 hg1)
  clear hZ hz hB4 hBV HNW hx1 hp1 hg1
  go_wp2_with fail
  clear x0 x1 hV
  refine HVA.out.mono ?_
  rintro e w5 ⟨rfl, hB5⟩
  have HB5 := Lib.hid hB5
  clear HVA hB5
  cases hok : prgOk p with
  | false =>
    have hne : newE p = 3 := if_neg (by rw [hok]; decide)
    have hZe : Z = ⟨[], []⟩ := by rw [← HZ.out]; exact if_neg (by rw [hok]; decide)
    have HFF : Hid (fitsP p M = false) := by show _ = _; unfold fitsP; rw [hok]; rfl
    obtain ⟨_, _, hx3, _, _, hz5, _⟩ := HKV.out w5 HB5.out
    obtain ⟨z0, z1⟩ := mem_two hx3
    have HEQ := Lib.hid (equal_any Z ⟨[], []⟩ w5 ca cs none none cac csc 0 0 hz5 ⟨⟨Nat.zero_le _, .inl rfl⟩, ⟨Nat.zero_le _, .inl rfl⟩⟩)
    have HEN : Hid (eqN Z ⟨[], []⟩ = 1) := if_pos hZe
    clear hok hZe hx3 hz5
    go_wp2_with fail
    clear z0 z1
    refine HEQ.out.mono ?_
    rintro e w6 ⟨rfl, hB6⟩
    rw [HEN.out]
    have HB6 := Lib.hid (mem_then HB5.out hB6)
    obtain ⟨hx1, hx2, _, hp1, hm1, _, hg1, _⟩ := HKV.out w6 HB6.out
    obtain ⟨x0, x1⟩ := mem_two hx1
    obtain ⟨y0, y1⟩ := mem_two hx2
    have HFT := Lib.hid (fits16_any p M w6 sa ta sc tc ma ms mac msc hp1 hm1 hg1)
    clear hB6 hx1 hx2 hp1 hm1 hg1 HEQ
    go_wp2_with fail
    clear x0 x1 y0 y1
    refine HFT.out.mono ?_
    rintro e w7 ⟨rfl, hB7⟩
    rw [HFF.out]
    have HB7 := Lib.hid (mem_then HB6.out hB7)
    clear hB7 HFT
    go_wp2_with fail
    go_ret
    exact ⟨rfl, (HKV.out w7 HB7.out).2.2.2.2.2.2.2⟩
  | true =>
  have hne : newE p = 0 := if_pos hok
  have HFZ : Hid (refFits p Z = true ∧ fitsP p Z = true) := by show _ ∧ _; rw [fits_ref hok, ← HZ.out]; exact ⟨new_fits hok, new_fits hok⟩
  have HFM : Hid (fitsP p M = refFits p M) := fits_ref hok
  have HZL : Hid (Z.shared.length ≤ 4 ∧ Z.arrays.length ≤ 8 ∧ ∀ t ∈ Z.arrays, t.length ≤ 4) := by show _ ∧ _; rw [← HZ.out]; exact new_len hok
  have HZZ : Hid ((∀ r ∈ Z.shared, ∀ x ∈ r, x = 0) ∧ ∀ t ∈ Z.arrays, ∀ r ∈ t, ∀ x ∈ r, x = 0) := by show _ ∧ _; rw [← HZ.out]; exact new_zero
  clear hok
  go_upto_region 8 with fail
  have hD0 : Below w5.heap.size w5 (World.drew w5) := (Below.refl _ _).drew
  refine wp_region_held_drew (S := fun w' => Below w5.heap.size w5 w') (by kernel_rfl) hD0 (fun hHeld => ?_)
  generalize hwd : World.drew w5 = v1 at hHeld hD0 ⊢
  clear hwd hD0
  have HH1 := Lib.hid hHeld
  refine wpAnyH_take (i := 0) (v := .int .i64 (newE p)) rfl (by kernel_rfl) (by kernel_rfl) (by kernel_rfl) (fun _ _ _ h => h) (Or.inl ⟨by rfl, ?_⟩) (by assumption) ?_
  · intro w' hSw; go_simp
  (try simp only [Act.put, List.getElem_toArray, List.getElem_cons_zero, List.setIfInBounds_toArray, List.set_cons_zero, List.set_cons_succ])
  refine wpAnyH_take (i := 1) (v := .bool false) rfl (by kernel_rfl) (by kernel_rfl) (by kernel_rfl) (fun _ _ _ h => h) (Or.inl ⟨by rfl, ?_⟩) (by assumption) ?_
  · intro w' hSw; go_simp
  (try simp only [Act.put, List.getElem_toArray, List.getElem_cons_zero, List.getElem_cons_succ, List.setIfInBounds_toArray, List.set_cons_zero, List.set_cons_succ])
  refine wpAnyH_take (i := 2) (v := .bool false) rfl (by kernel_rfl) (by kernel_rfl) (by kernel_rfl) (fun _ _ _ h => h) (Or.inl ⟨by rfl, ?_⟩) (by assumption) ?_
  · intro w' hSw; go_simp
  (try simp only [Act.put, List.getElem_toArray, List.getElem_cons_zero, List.getElem_cons_succ, List.setIfInBounds_toArray, List.set_cons_zero, List.set_cons_succ])
  refine wpAnyH_take (i := 3) (v := p.val sa sc ta tc) rfl (by kernel_rfl) (by kernel_rfl) (by kernel_rfl) (fun _ _ _ h => h) (Or.inl ⟨by rfl, ?_⟩) (by assumption) ?_
  · intro w' hSw; obtain ⟨z0, z1⟩ := mem_two (HKV.out _ (mem_then HB5.out hSw)).1; go_simp
  (try simp only [Act.put, List.getElem_toArray, List.getElem_cons_zero, List.getElem_cons_succ, List.setIfInBounds_toArray, List.set_cons_zero, List.set_cons_succ])
  refine wpAnyH_take (i := 4) (v := Z.val ca cac cs csc) rfl (by kernel_rfl) (by kernel_rfl) (by kernel_rfl) (fun _ _ _ h => h) (Or.inl ⟨by rfl, ?_⟩) (by assumption) ?_
  · intro w' hSw; obtain ⟨z0, z1⟩ := mem_two (HKV.out _ (mem_then HB5.out hSw)).2.2.1; go_simp
  (try simp only [Act.put, List.getElem_toArray, List.getElem_cons_zero, List.getElem_cons_succ, List.setIfInBounds_toArray, List.set_cons_zero, List.set_cons_succ])
  refine wpAnyH_ready (rs := [5]) (by kernel_rfl) (by simp) (AllReadyH.cons rfl (fun K hK => ?_) AllReadyH.nil)
  go_simp
  obtain ⟨_, _, _, hp1, hm1, hz1, hg1, _⟩ := HKV.out v1 (mem_then HB5.out HH1.out)
  refine (fits16_any p Z v1 sa ta sc tc ca cs cac csc hp1 hz1 hg1).mono ?_
  rintro e w6 ⟨rfl, hB6⟩
  rw [HFZ.out.2]
  have HB6 := Lib.hid (mem_then HH1.out hB6)
  clear hp1 hm1 hz1 hg1 hB6
  refine hK.out _ _ (HB6.out) (fun hHeld => ?_)
  clear hK K
  rename_i hOld
  clear hOld
  (try simp only [Act.put, List.getElem_toArray, List.getElem_cons_zero, List.getElem_cons_succ, List.setIfInBounds_toArray, List.set_cons_zero, List.set_cons_succ])
  refine wpAnyH_take (i := 6) (v := .bool false) rfl (by kernel_rfl) (by kernel_rfl) (by kernel_rfl) (fun _ _ _ h => h) (Or.inl ⟨by rfl, ?_⟩) (by assumption) ?_
  · intro w' hSw; go_simp
  (try simp only [Act.put, List.getElem_toArray, List.getElem_cons_zero, List.getElem_cons_succ, List.setIfInBounds_toArray, List.set_cons_zero, List.set_cons_succ])
  refine wpAnyH_take (i := 7) (v := .bool false) rfl (by kernel_rfl) (by kernel_rfl) (by kernel_rfl) (fun _ _ _ h => h) (Or.inl ⟨by rfl, ?_⟩) (by assumption) ?_
  · intro w' hSw; go_simp
  (try simp only [Act.put, List.getElem_toArray, List.getElem_cons_zero, List.getElem_cons_succ, List.setIfInBounds_toArray, List.set_cons_zero, List.set_cons_succ])
  refine wpAnyH_take (i := 8) (v := .bool false) rfl (by kernel_rfl) (by kernel_rfl) (by kernel_rfl) (fun _ _ _ h => h) (Or.inl ⟨by rfl, ?_⟩) (by assumption) ?_
  · intro w' hSw; go_simp
  (try simp only [Act.put, List.getElem_toArray, List.getElem_cons_zero, List.getElem_cons_succ, List.setIfInBounds_toArray, List.set_cons_zero, List.set_cons_succ])
  refine wpAnyH_take (i := 9) (v := p.val sa sc ta tc) rfl (by kernel_rfl) (by kernel_rfl) (by kernel_rfl) (fun _ _ _ h => h) (Or.inl ⟨by rfl, ?_⟩) (by assumption) ?_
  · intro w' hSw; obtain ⟨z0, z1⟩ := mem_two (HKV.out _ (mem_then HB5.out hSw)).1; go_simp
  (try simp only [Act.put, List.getElem_toArray, List.getElem_cons_zero, List.getElem_cons_succ, List.setIfInBounds_toArray, List.set_cons_zero, List.set_cons_succ])
  refine wpAnyH_take (i := 10) (v := .pointer (some ⟨w4.heap.size, 0, none⟩)) rfl (by kernel_rfl) (by kernel_rfl) (by kernel_rfl) (fun _ _ _ h => h) (Or.inl ⟨by rfl, ?_⟩) (by assumption) ?_
  · intro w' hSw; go_simp
  (try simp only [Act.put, List.getElem_toArray, List.getElem_cons_zero, List.getElem_cons_succ, List.setIfInBounds_toArray, List.set_cons_zero, List.set_cons_succ])
  refine wpAnyH_take (i := 11) (v := .slice ca Z.arrays.length cac) rfl (by kernel_rfl) (by kernel_rfl) (by kernel_rfl) (fun _ _ _ h => h) (Or.inl ⟨by rfl, ?_⟩) (by assumption) ?_
  · intro w' hSw; obtain ⟨z0, z1⟩ := mem_two (HKV.out _ (mem_then HB5.out hSw)).2.2.1; go_simp
  (try simp only [Act.put, List.getElem_toArray, List.getElem_cons_zero, List.getElem_cons_succ, List.setIfInBounds_toArray, List.set_cons_zero, List.set_cons_succ])
  refine wpAnyH_take (i := 12) (v := .pointer (some ⟨w4.heap.size, 1, none⟩)) rfl (by kernel_rfl) (by kernel_rfl) (by kernel_rfl) (fun _ _ _ h => h) (Or.inl ⟨by rfl, ?_⟩) (by assumption) ?_
  · intro w' hSw; go_simp
  (try simp only [Act.put, List.getElem_toArray, List.getElem_cons_zero, List.getElem_cons_succ, List.setIfInBounds_toArray, List.set_cons_zero, List.set_cons_succ])
  refine wpAnyH_take (i := 13) (v := .slice cs Z.shared.length csc) rfl (by kernel_rfl) (by kernel_rfl) (by kernel_rfl) (fun _ _ _ h => h) (Or.inl ⟨by rfl, ?_⟩) (by assumption) ?_
  · intro w' hSw; obtain ⟨z0, z1⟩ := mem_two (HKV.out _ (mem_then HB5.out hSw)).2.2.1; go_simp
  (try simp only [Act.put, List.getElem_toArray, List.getElem_cons_zero, List.getElem_cons_succ, List.setIfInBounds_toArray, List.set_cons_zero, List.set_cons_succ])
  refine wpAnyH_ready (rs := [14]) (by kernel_rfl) (by simp) (AllReadyH.cons rfl (fun K hK => ?_) AllReadyH.nil)
  go_simp
  obtain ⟨_, _, _, hp1, hm1, hz1, hg1, _⟩ := HKV.out w6 (mem_then HB5.out HB6.out)
  refine (refFits_any p Z w6 sa ta sc tc ca cs cac csc hp1 hz1).mono ?_
  rintro e w7 ⟨rfl, hB7⟩
  rw [HFZ.out.1]
  have HB7 := Lib.hid (mem_then HB6.out hB7)
  clear hp1 hm1 hz1 hg1 hB7
  refine hK.out _ _ (HB7.out) (fun hHeld => ?_)
  clear hK K
  rename_i hOld
  clear hOld
  (try simp only [Act.put, List.getElem_toArray, List.getElem_cons_zero, List.getElem_cons_succ, List.setIfInBounds_toArray, List.set_cons_zero, List.set_cons_succ])
  refine wpAnyH_take (i := 15) (v := .bool false) rfl (by kernel_rfl) (by kernel_rfl) (by kernel_rfl) (fun _ _ _ h => h) (Or.inl ⟨by rfl, ?_⟩) (by assumption) ?_
  · intro w' hSw; go_simp
  (try simp only [Act.put, List.getElem_toArray, List.getElem_cons_zero, List.getElem_cons_succ, List.setIfInBounds_toArray, List.set_cons_zero, List.set_cons_succ])
  refine wpAnyH_take (i := 16) (v := .bool false) rfl (by kernel_rfl) (by kernel_rfl) (by kernel_rfl) (fun _ _ _ h => h) (Or.inl ⟨by rfl, ?_⟩) (by assumption) ?_
  · intro w' hSw; go_simp
  (try simp only [Act.put, List.getElem_toArray, List.getElem_cons_zero, List.getElem_cons_succ, List.setIfInBounds_toArray, List.set_cons_zero, List.set_cons_succ])
  refine wpAnyH_take (i := 17) (v := .bool false) rfl (by kernel_rfl) (by kernel_rfl) (by kernel_rfl) (fun _ _ _ h => h) (Or.inl ⟨by rfl, ?_⟩) (by assumption) ?_
  · intro w' hSw; go_simp
  (try simp only [Act.put, List.getElem_toArray, List.getElem_cons_zero, List.getElem_cons_succ, List.setIfInBounds_toArray, List.set_cons_zero, List.set_cons_succ])
  refine wpAnyH_take (i := 18) (v := p.val sa sc ta tc) rfl (by kernel_rfl) (by kernel_rfl) (by kernel_rfl) (fun _ _ _ h => h) (Or.inl ⟨by rfl, ?_⟩) (by assumption) ?_
  · intro w' hSw; obtain ⟨z0, z1⟩ := mem_two (HKV.out _ (mem_then HB5.out hSw)).1; go_simp
  (try simp only [Act.put, List.getElem_toArray, List.getElem_cons_zero, List.getElem_cons_succ, List.setIfInBounds_toArray, List.set_cons_zero, List.set_cons_succ])
  refine wpAnyH_take (i := 19) (v := M.val ma mac ms msc) rfl (by kernel_rfl) (by kernel_rfl) (by kernel_rfl) (fun _ _ _ h => h) (Or.inl ⟨by rfl, ?_⟩) (by assumption) ?_
  · intro w' hSw; obtain ⟨z0, z1⟩ := mem_two (HKV.out _ (mem_then HB5.out hSw)).2.1; go_simp
  (try simp only [Act.put, List.getElem_toArray, List.getElem_cons_zero, List.getElem_cons_succ, List.setIfInBounds_toArray, List.set_cons_zero, List.set_cons_succ])
  refine wpAnyH_take (i := 21) (v := p.val sa sc ta tc) rfl (by kernel_rfl) (by kernel_rfl) (by kernel_rfl) (fun _ _ _ h => h) (Or.inl ⟨by rfl, ?_⟩) (by assumption) ?_
  · intro w' hSw; obtain ⟨z0, z1⟩ := mem_two (HKV.out _ (mem_then HB5.out hSw)).1; go_simp
  (try simp only [Act.put, List.getElem_toArray, List.getElem_cons_zero, List.getElem_cons_succ, List.setIfInBounds_toArray, List.set_cons_zero, List.set_cons_succ])
  refine wpAnyH_take (i := 22) (v := .pointer (some ⟨W.heap.size, 0, none⟩)) rfl (by kernel_rfl) (by kernel_rfl) (by kernel_rfl) (fun _ _ _ h => h) (Or.inl ⟨by rfl, ?_⟩) (by assumption) ?_
  · intro w' hSw; go_simp
  (try simp only [Act.put, List.getElem_toArray, List.getElem_cons_zero, List.getElem_cons_succ, List.setIfInBounds_toArray, List.set_cons_zero, List.set_cons_succ])
  refine wpAnyH_take (i := 23) (v := .slice ma M.arrays.length mac) rfl (by kernel_rfl) (by kernel_rfl) (by kernel_rfl) (fun _ _ _ h => h) (Or.inl ⟨by rfl, ?_⟩) (by assumption) ?_
  · intro w' hSw; obtain ⟨z0, z1⟩ := mem_two (HKV.out _ (mem_then HB5.out hSw)).2.1; go_simp
  (try simp only [Act.put, List.getElem_toArray, List.getElem_cons_zero, List.getElem_cons_succ, List.setIfInBounds_toArray, List.set_cons_zero, List.set_cons_succ])
  refine wpAnyH_take (i := 24) (v := .pointer (some ⟨W.heap.size, 1, none⟩)) rfl (by kernel_rfl) (by kernel_rfl) (by kernel_rfl) (fun _ _ _ h => h) (Or.inl ⟨by rfl, ?_⟩) (by assumption) ?_
  · intro w' hSw; go_simp
  (try simp only [Act.put, List.getElem_toArray, List.getElem_cons_zero, List.getElem_cons_succ, List.setIfInBounds_toArray, List.set_cons_zero, List.set_cons_succ])
  refine wpAnyH_take (i := 25) (v := .slice ms M.shared.length msc) rfl (by kernel_rfl) (by kernel_rfl) (by kernel_rfl) (fun _ _ _ h => h) (Or.inl ⟨by rfl, ?_⟩) (by assumption) ?_
  · intro w' hSw; obtain ⟨z0, z1⟩ := mem_two (HKV.out _ (mem_then HB5.out hSw)).2.1; go_simp
  (try simp only [Act.put, List.getElem_toArray, List.getElem_cons_zero, List.getElem_cons_succ, List.setIfInBounds_toArray, List.set_cons_zero, List.set_cons_succ])
  refine wpAnyH_ready (rs := [20]) (by kernel_rfl) (by simp) (AllReadyH.cons rfl (fun K hK => ?_) AllReadyH.nil)
  go_simp
  obtain ⟨_, _, _, hp1, hm1, hz1, hg1, _⟩ := HKV.out w7 (mem_then HB5.out HB7.out)
  refine (fits16_any p M w7 sa ta sc tc ma ms mac msc hp1 hm1 hg1).mono ?_
  rintro e w8 ⟨rfl, hB8⟩
  rw [HFM.out]
  have HB8 := Lib.hid (mem_then HB7.out hB8)
  clear hp1 hm1 hz1 hg1 hB8
  refine hK.out _ _ (HB8.out) (fun hHeld => ?_)
  clear hK K
  rename_i hOld
  clear hOld
  (try simp only [Act.put, List.getElem_toArray, List.getElem_cons_zero, List.getElem_cons_succ, List.setIfInBounds_toArray, List.set_cons_zero, List.set_cons_succ])
  refine wpAnyH_ready (rs := [26]) (by kernel_rfl) (by simp) (AllReadyH.cons rfl (fun K hK => ?_) AllReadyH.nil)
  go_simp
  obtain ⟨_, _, _, hp1, hm1, hz1, hg1, _⟩ := HKV.out w8 (mem_then HB5.out HB8.out)
  refine (refFits_any p M w8 sa ta sc tc ma ms mac msc hp1 hm1).mono ?_
  rintro e w9 ⟨rfl, hB9⟩
  have HB9 := Lib.hid (mem_then HB8.out hB9)
  clear hp1 hm1 hz1 hg1 hB9
  refine hK.out _ _ (HB9.out) (fun hHeld => ?_)
  clear hK K
  rename_i hOld
  clear hOld
  (try simp only [Act.put, List.getElem_toArray, List.getElem_cons_zero, List.getElem_cons_succ, List.setIfInBounds_toArray, List.set_cons_zero, List.set_cons_succ])
  obtain ⟨b, hb⟩ : ∃ b, refFits p M = b := ⟨_, rfl⟩
  rw [hb]
  have hbb : (b != b) = false := by cases b <;> rfl
  clear hb
  refine wpAnyH_take (i := 27) (v := .bool false) rfl (by kernel_rfl) (by kernel_rfl) (by kernel_rfl) (fun _ _ _ h => h) (Or.inl ⟨by rfl, ?_⟩) (by assumption) ?_
  · intro w' hSw; go_simp
  (try simp only [Act.put, List.getElem_toArray, List.getElem_cons_zero, List.getElem_cons_succ, List.setIfInBounds_toArray, List.set_cons_zero, List.set_cons_succ])
  refine wpAnyH_take (i := 28) (v := .bool false) rfl (by kernel_rfl) (by kernel_rfl) (by kernel_rfl) (fun _ _ _ h => h) (Or.inl ⟨by rfl, ?_⟩) (by assumption) ?_
  · intro w' hSw; go_simp
  (try simp only [Act.put, List.getElem_toArray, List.getElem_cons_zero, List.getElem_cons_succ, List.setIfInBounds_toArray, List.set_cons_zero, List.set_cons_succ])
  clear hHeld
  refine wpAnyH_done (by kernel_rfl) ?_ _
  have HB0 : Hid (Below V.heap.size V w9) := mem_then HB5.out HB9.out
  obtain ⟨_, _, hx3, _, _, hz9, _⟩ := HKV.out w9 HB0.out
  have HZ9 := Lib.hid hz9
  obtain ⟨z0, z1⟩ := mem_two hx3
  have hbl4 := mem_lt hx3
  obtain ⟨v2, hv2⟩ : ∃ V : World, w9.alloc (.cells #[] 30) = V := ⟨_, rfl⟩
  have hB2 : Below w9.heap.size w9 v2 := by rw [← hv2]; exact mem_alloc _ _
  have HMADE : Hid (v2.ownsRow w9.heap.size 30 1 (.slice (some ⟨w9.heap.size, 0, none⟩) 0 0) 0 []) := by
    show World.ownsRow _ _ _ _ _ _ _
    rw [← hv2]
    exact World.ownsRow_made _ #[] 0 (Nat.le_refl _) (by unfold maxLen; omega) rfl
  have HV2 := Lib.hid hB2
  obtain ⟨c0, c1⟩ := mem_two (mem_keep hx3 hB2)
  have hzl := HZL.out.1
  obtain ⟨news, hnl, hsrc, hones, hrows⟩ := hz9.2.src
  have HSRC := Lib.hid (Src.below hsrc hB2)
  have HONES := Lib.hid hones
  have HROWS := Lib.hid hrows
  have HNL := Lib.hid hnl
  clear hx3 hz9 hB2 hnl hsrc hones hrows
  go_upto_region 11 with (at_builtin; refine wpList_append_src _ rfl (.tmp 71) (.tmp 73) 27 rfl w9.heap.size 30 i1 _ 1 24 Tryd.underlying27 hi1 hz10 hz11 hz12 rfl (by decide) (.slice (some ⟨w9.heap.size, 0, none⟩) 0 0) 0 [] rfl HMADE.out cs Z.shared.length csc news rfl HSRC.out HONES.out (by unfold maxLen; omega) (by omega) HV2.out.size ?_)
  clear c0 c1 z0 z1 hv2
  intro v3 w10 hown3 hgrow3 _
  have HB10 : Hid (Below w9.heap.size w9 w10) := HV2.out.grown hgrow3 HV2.out.size (fun b hb => (own_lt HMADE.out hb).1)
  have HR0 : Hid (RowsRd w9 w10 v3 Z.shared news) := ⟨HNL.out, by simpa using hown3, HROWS.out⟩
  obtain ⟨_, _, hx3, _⟩ := HKV.out w10 (mem_then HB0.out HB10.out)
  obtain ⟨z0, z1⟩ := mem_two hx3
  clear hown3 hgrow3 hx3
  go_wp2_with fail
  clear z0 z1
  go_loopw [7, 78] (fun v iv wr => ∃ (j : Nat) (L : List (List Int)) (us : List Value), j ≤ Z.arrays.length ∧ iv = .int .i64 (j : Int) ∧ RowsRd w9 wr v L us ∧ (∀ r ∈ L, ∀ x ∈ r, x = 0) ∧ L.length ≤ 4 + 4 * j ∧ Below w9.heap.size w9 wr) (fun _ iv _ => Z.arrays.length - (intOf iv).toNat)
  case atStart => exact ⟨0, Z.shared, news, Nat.zero_le _, rfl, HR0.out, HZZ.out.1, by have := HZL.out.1; omega, HB10.out⟩
  case round =>
    obtain ⟨j, L, us, hj, rfl, hrr, hzero, hLl, hB⟩ := hrel
    have HRR := Lib.hid hrr
    have HZERO := Lib.hid hzero
    have HBJ := Lib.hid hB
    have hzl2 := HZL.out.2.1
    have hj0 : (0 : Int) ≤ (j : Int) := by omega
    obtain ⟨va, vc, rfl⟩ := own_val hrr.ro
    clear hrr hzero hB
    by_cases hlt : j < Z.arrays.length
    · have hlt2 : (j : Int) < (Z.arrays.length : Int) := by omega
      obtain ⟨t, ht⟩ : ∃ t, Z.arrays[j]? = some t := ⟨_, List.getElem?_eq_getElem hlt⟩
      have htl := HZL.out.2.2 t (List.mem_of_getElem? ht)
      have HTZ := Lib.hid (HZZ.out.2 t (List.mem_of_getElem? ht))
      obtain ⟨b1, o1, rfl, ra, rc, hcell, _, hw⟩ := HZ9.out.1.row ht
      obtain ⟨nw, hnl, hsrc, hones, hrows⟩ := hw.src
      have HSR := Lib.hid (Src.below hsrc HBJ.out)
      have HON := Lib.hid hones
      have HRW := Lib.hid hrows
      have HNW := Lib.hid hnl
      have hrf := hw.fits
      have hc := cell_stay HBJ.out hcell
      clear ht hw hnl hsrc hones hrows hcell
      go_wp2_with (at_builtin; refine wpList_append_src _ rfl (.tmp 82) (.tmp 83) 27 rfl w9.heap.size 30 i1 _ 1 24 Tryd.underlying27 hi1 hz10 hz11 hz12 rfl (by decide) (.slice va L.length vc) L.length us rfl HRR.out.ro ra t.length rc nw rfl HSR.out HON.out (by unfold maxLen; omega) (by omega) HBJ.out.size ?_)
      clear hc
      intro v4 w4' hown4 hgrow4 _
      have HR4 : Hid (RowsRd w9 w4' v4 (L ++ t) (us ++ nw)) := HRR.out.push HNW.out HRW.out hown4
      have HB4 : Hid (Below w9.heap.size w9 w4') := HBJ.out.grown hgrow4 HBJ.out.size (fun b hb => (own_lt HRR.out.ro hb).1)
      have HZ4 : Hid (∀ r ∈ L ++ t, ∀ x ∈ r, x = 0) := fun r hr => by
        rcases List.mem_append.1 hr with h | h
        · exact HZERO.out r h
        · exact HTZ.out r h
      clear hown4 hgrow4
      go_wp2_with fail
      go_roundw
      case rel => exact ⟨j + 1, L ++ t, us ++ nw, by omega, by go_num, HR4.out, HZ4.out, by rw [List.length_append]; omega, HB4.out⟩
      case measure => simp [intOf]; omega
    · obtain rfl : j = Z.arrays.length := by omega
      have hLm : L.length ≤ 1000 := by omega
      go_wp2_with fail
      obtain ⟨wo, hwo⟩ : ∃ wo : World, wo = wr := ⟨_, rfl⟩
      subst hwo
      go_loopw [88] (fun iv wr => ∃ k : Nat, k ≤ L.length ∧ iv = .int .i64 (k : Int) ∧ Below wo.heap.size wo wr) (fun iv _ => L.length - (intOf iv).toNat)
      case atStart => exact ⟨0, Nat.zero_le _, rfl, Below.refl _ _⟩
      case round =>
        obtain ⟨k, hk, rfl, hB⟩ := hrel
        have HBK := Lib.hid hB
        have hk0 : (0 : Int) ≤ (k : Int) := by omega
        clear hB
        by_cases hlk : k < L.length
        · have hlk2 : (k : Int) < (L.length : Int) := by omega
          obtain ⟨r, hr⟩ : ∃ r, L[k]? = some r := ⟨_, List.getElem?_eq_getElem hlk⟩
          have HRZ := Lib.hid (HZERO.out r (List.mem_of_getElem? hr))
          obtain ⟨ra, rc, hu, hw⟩ := HRR.out.ri k r hr
          have hro := HRR.out.ro
          obtain ⟨g, rfl, _, _⟩ := own_at hro (by omega)
          have hcell := cell_stay HBK.out (own_get hro hu)
          have hrf := hw.fits
          have HW := Lib.hid (hw.below (mem_then HBJ.out HBK.out))
          clear hr hu hw hro
          go_wp2_with fail
          clear hcell
          obtain ⟨wp, hwp⟩ : ∃ wp : World, wp = wr := ⟨_, rfl⟩
          subst hwp
          go_loopw [94] (fun iv wr => ∃ q : Nat, q ≤ r.length ∧ iv = .int .i64 (q : Int) ∧ Below wp.heap.size wp wr) (fun iv _ => r.length - (intOf iv).toNat)
          case atStart => exact ⟨0, Nat.zero_le _, rfl, Below.refl _ _⟩
          case round =>
            obtain ⟨q, hq, rfl, hB⟩ := hrel
            have HBQ := Lib.hid hB
            have hq0 : (0 : Int) ≤ (q : Int) := by omega
            clear hB
            by_cases hlq : q < r.length
            · have hlq2 : (q : Int) < (r.length : Int) := by omega
              obtain ⟨x, hx⟩ : ∃ x, r[q]? = some x := ⟨_, List.getElem?_eq_getElem hlq⟩
              obtain rfl := HRZ.out x (List.mem_of_getElem? hx)
              obtain ⟨b1, o1, rfl, h1⟩ := HW.out.at_.resolve_left (by omega)
              have hc := cell_stay HBQ.out (h1 q 0 hx)
              clear hx h1
              go_wp2_with fail
              go_roundw
              case rel => exact ⟨q + 1, by omega, by go_num, HBQ.out⟩
              case measure => simp [intOf]; omega
            · obtain rfl : q = r.length := by omega
              go_wp2_with fail
              go_roundw
              case rel => exact ⟨k + 1, by omega, by go_num, mem_then HBK.out HBQ.out⟩
              case measure => simp [intOf]; omega
        · obtain rfl : k = L.length := by omega
          go_wp2_with fail
          go_ret
          exact ⟨rfl, (HKV.out _ (mem_then HB0.out (mem_then HBJ.out HBK.out))).2.2.2.2.2.2.2⟩
end Go.Proofs.YtgochgcchkdlmaaDoor
