/-
  InNews: several texts in one (InZeros, InNew).
-/
import Derived.Test.YtgochgcchkdlmaaDoorPuts
import Derived.Test.YtgochgcchkdlmaaDoorInMems
import Derived.Laws.MakeOwn
import Derived.Laws.OwnMore
import Derived.Test.YtgochgcchkdlmaaDoorInJobs
/-
  Contract: zeros (package interp).
-/
namespace Go.Proofs.YtgochgcchkdlmaaDoor
set_option linter.unusedVariables false
set_option linter.unusedSimpArgs false
open Go.RowKit Go.Maps
set_option maxRecDepth 100000
set_option maxHeartbeats 80000000

theorem int_info : (Tryd.prog.info? 21).map (fun i => (i.zero, i.size, i.bytes)) = some (some (.int .i32 0), 1, 4) := by kernel_rfl
theorem make16 (n : Nat) (hn : n ≤ 10000) (w : World) : (Instr.makeSlice 30 (.int .i64 (n : Int)) (.int .i64 (n : Int))).run Tryd.prog w = .ok (.slice (some ⟨w.heap.size, 0, none⟩) n n) (w.alloc (.cells (i32s (List.replicate n 0)).toArray 21)) := by
  obtain ⟨i0, hi, hz0, hz1, hz2⟩ := info_parts int_info
  rw [run_make w 30 21 i0 _ Tryd.underlying30 hi hz0 .i64 .i64 n n (by omega) (by omega) (by rw [hz2]; omega) (by omega)]
  have e : madeCells (Value.int .i32 0).cells (((n : Int)).toNat * i0.size) = (i32s (List.replicate n 0)).toArray := by
    rw [hz1, Int.toNat_natCast, Nat.mul_one]
    apply Array.toList_inj.1
    rw [show (Value.int .i32 0).cells = #[Value.int .i32 0] from rfl, toList_madeCells_one]
    simp [i32s]
  rw [e, Int.toNat_natCast]
def zP (D : List Arr) : List (List Int) := D.map (fun x => List.replicate x.len.toNat 0)
theorem zeros_any (D : List Arr) (a : Option Addr) (c : Nat) (w : World) (h : ArrsAt w a D) (hl : D.length ≤ 1000000) (hr : ∀ x ∈ D, 0 ≤ x.len ∧ x.len ≤ 10000) :
    Calls Tryd.prog 42 #[.slice a D.length c] w fun e w' => ∃ v vs, e = .returned v ∧ LOwn w.heap.size w' v vs (zP D) ∧ Below w.heap.size w w' := by
  obtain ⟨i0, hi, hz0, hz1, hz2⟩ := info_parts row_info
  have H := Lib.hid h
  have HR := Lib.hid hr
  clear h hr
  go_enter Tryd.func42, Tryd.ntmps42
  go_wp2_with fail
  go_loopw [3, 8] (fun v iv wr => ∃ (j : Nat) (vs : List Value), j ≤ D.length ∧ iv = .int .i64 (j : Int) ∧ LOwn w.heap.size wr v vs (zP (D.take j)) ∧ Below w.heap.size w wr) (fun _ iv _ => D.length - (intOf iv).toNat)
  case atStart => exact ⟨0, [], Nat.zero_le _, rfl, by rw [List.take_zero]; exact LOwn.nil, Below.refl _ _⟩
  case round =>
    obtain ⟨j, vs, hj, rfl, hown, hB⟩ := hrel
    have HOWN := Lib.hid hown
    have HB := Lib.hid hB
    have hj0 : (0 : Int) ≤ (j : Int) := by omega
    obtain ⟨va, vc, rfl⟩ := own_val hown.ro
    clear hown hB
    by_cases hlt : j < D.length
    · have hlt2 : (j : Int) < (D.length : Int) := by omega
      obtain ⟨b1, o1, rfl, hx⟩ := H.out.2 j hlt
      obtain ⟨x, hxe⟩ : ∃ x, D.getD j Arr.none = x := ⟨_, rfl⟩
      have hxd : D[j]? = some x := by rw [← hxe, List.getD_eq_getElem?_getD, List.getElem?_eq_getElem hlt]; rfl
      rw [hxe] at hx
      obtain ⟨hx1, hx2⟩ := HR.out x (List.mem_of_getElem? hxd)
      obtain ⟨nm, xl⟩ := x
      obtain ⟨n, hn⟩ : ∃ n : Nat, xl = (n : Int) := ⟨xl.toNat, by have h1 : 0 ≤ xl := hx1; omega⟩
      subst hn
      have hn4 : n ≤ 10000 := by have h1 : (n : Int) ≤ 10000 := hx2; omega
      have x0 := cell_stay HB.out hx.1
      have x1 := cell_stay HB.out hx.2.1
      have hb1 := World.block_lt_of_cell? _ _ x0
      have htl : (zP (D.take j)).length = j := by unfold zP; rw [List.length_map, List.length_take]; omega
      have HTL := Lib.hid htl
      rw [htl]
      have HTAKE : Hid (zP (D.take (j + 1)) = zP (D.take j) ++ [List.replicate n 0]) := by show _ = _; rw [List.take_add_one, hxd]; unfold zP; rw [List.map_append]; rfl
      obtain ⟨Z, hZ⟩ : ∃ Z : World, wr.alloc (.cells #[.string nm, .int .i64 (n : Int)] 88) = Z := ⟨_, rfl⟩
      have hBZ : Below wr.heap.size wr Z := by rw [← hZ]; exact mem_alloc _ _
      have hXZ : Z.heap[wr.heap.size]? = some (.cells #[.string nm, .int .i64 (n : Int)] 88) := by rw [← hZ]; exact mem_new _ _
      have z1 := mem_cell hXZ 1
      simp only [List.getElem?_toArray, List.getElem?_cons_zero, List.getElem?_cons_succ] at z1
      have hmk := make16 n hn4 Z
      obtain ⟨Y, hY⟩ : ∃ Y : World, Z.alloc (.cells (i32s (List.replicate n 0)).toArray 21) = Y := ⟨_, rfl⟩
      rw [hY] at hmk
      have HOY : Hid (Y.ownsRow wr.heap.size 21 1 (.slice (some ⟨Z.heap.size, 0, none⟩) n n) (List.replicate n (0 : Int)).length (i32s (List.replicate n 0))) := by
        show World.ownsRow _ _ _ _ _ _ _
        rw [← hY, List.length_replicate]
        have h1 := World.ownsRow_lit (base := wr.heap.size) (e := 21) (size := 1) Z (i32s (List.replicate n 0)).toArray n hBZ.size (by unfold maxLen; omega) (by simp [i32s])
        simpa using h1
      have hBY : Below Z.heap.size Z Y := by rw [← hY]; exact mem_alloc _ _
      have HBY : Hid (Below wr.heap.size wr Y) := mem_then hBZ hBY
      have HNEW : Hid ((Y.alloc (.cells #[.slice (some ⟨Z.heap.size, 0, none⟩) n n] 30)).heap[Y.heap.size]? = some (.cells #[.slice (some ⟨Z.heap.size, 0, none⟩) n n] 30)) := mem_new _ _
      have HB3 : Hid (Below wr.heap.size wr (Y.alloc (.cells #[.slice (some ⟨Z.heap.size, 0, none⟩) n n] 30))) := mem_then HBY.out (mem_alloc _ _)
      have HRO : Hid ((Y.alloc (.cells #[.slice (some ⟨Z.heap.size, 0, none⟩) n n] 30)).ownsRow w.heap.size 30 1 (.slice va j vc) j vs) := by
        have h1 := own_below HOWN.out.ro HB3.out
        rw [HTL.out] at h1
        exact h1
      clear hx hxe hxd htl hBZ hXZ hBY hY hx1 hx2
      go_wp2_with (at_builtin; refine wpList_append_src _ rfl (.tmp 12) (.tmp 16) 27 rfl w.heap.size 30 i0 _ 1 24 Tryd.underlying27 hi hz0 hz1 hz2 rfl (by decide) (.slice va j vc) j vs rfl HRO.out (some ⟨Y.heap.size, 0, none⟩) 1 1 [.slice (some ⟨Z.heap.size, 0, none⟩) n n] rfl (src_new HNEW.out rfl) (by simp [Value.oneCell']) (by unfold maxLen; omega) (by omega) (Nat.le_trans HB.out.size HB3.out.size) ?_)
      intro v9 w9 hown9 hgrow9 _
      have HL9 : Hid (LOwn w.heap.size w9 v9 (vs ++ [.slice (some ⟨Z.heap.size, 0, none⟩) n n]) (zP (D.take (j + 1)))) := by
        show LOwn _ _ _ _ _
        rw [HTAKE.out]
        refine HOWN.out.push HB3.out (own_below HOY.out (mem_alloc _ _)) HB.out.size ?_ ?_
        · rw [HTL.out]; exact hgrow9
        · rw [HTL.out]; exact hown9
      have HB9 : Hid (Below w.heap.size w w9) := (mem_then HB.out HB3.out).grown hgrow9 (mem_then HB.out HB3.out).size (fun b hb => (own_lt HRO.out hb).1)
      clear hown9 hgrow9
      go_wp2_with fail
      go_roundw
      case rel => exact ⟨j + 1, _, by omega, by go_num, HL9.out, HB9.out⟩
      case measure => simp [intOf]; omega
    · obtain rfl : j = D.length := by omega
      have HO : Hid (LOwn w.heap.size wr (.slice va (zP (D.take D.length)).length vc) vs (zP D)) := by
        have h1 := HOWN.out
        show LOwn _ _ _ _ _
        rw [List.take_length] at h1 ⊢
        exact h1
      go_wp2_with fail
      go_ret
      exact ⟨_, vs, rfl, HO.out, HB.out⟩
end Go.Proofs.YtgochgcchkdlmaaDoor

/-
  Contract: New (package interp).
-/
namespace Go.Proofs.YtgochgcchkdlmaaDoor
set_option linter.unusedVariables false
set_option linter.unusedSimpArgs false
open Go.RowKit Go.Maps
set_option maxRecDepth 100000
set_option maxHeartbeats 80000000

abbrev mObj (a b : Value) : Obj := .cells #[a, b] 29
theorem cont3_info : (Tryd.prog.info? 27).map (fun i => (i.zero, i.size, i.bytes)) = some (some (.slice none 0 0), 1, 24) := by kernel_rfl
def newP (p : Prg) : Mem := if prgOk p then ⟨p.tasks.map (fun t => zP t.arrays), zP p.shared⟩ else ⟨[], []⟩
def newE (p : Prg) : Int := if prgOk p then 0 else 3
theorem zP_word {D : List Arr} : ∀ r ∈ zP D, ∀ x ∈ r, Wd.W x := fun r hr x hx => by
  unfold zP at hr
  obtain ⟨y, _, rfl⟩ := List.mem_map.1 hr
  rw [(List.mem_replicate.1 hx).2]
  exact ⟨by omega, by omega⟩
theorem mem_two {w : World} {b : Nat} {x y : Value} {T : TypeId} (h : w.heap[b]? = some (.cells #[x, y] T)) : w.cell? ⟨b, 0, none⟩ = some x ∧ w.cell? ⟨b, 1, none⟩ = some y := ⟨mem_cell h 0, mem_cell h 1⟩
theorem new_any (p : Prg) (w : World) (sa ta : Option Addr) (sc tc : Nat) (hp : PrgAt w p sa ta) (hg : SignsIn w) :
    Calls Tryd.prog 21 #[p.val sa sc ta tc] w fun e w' => ∃ ma mac ms msc, e = .returned (.tuple #[(newP p).val ma mac ms msc, .int .i64 (newE p)]) ∧ MemAt w' (newP p) ma ms ∧ Below w.heap.size w w' := by
  have hsl := hp.1.1
  have htl := hp.2.1
  obtain ⟨W, hW⟩ : ∃ W : World, w.alloc (prgObj p sa sc ta tc) = W := ⟨_, rfl⟩
  have hBW : Below w.heap.size w W := by rw [← hW]; exact mem_alloc _ _
  have hXW : W.heap[w.heap.size]? = some (prgObj p sa sc ta tc) := by rw [← hW]; exact mem_new _ _
  obtain ⟨W2, hW2⟩ : ∃ W2 : World, W.alloc (mObj (.slice none 0 0) (.slice none 0 0)) = W2 := ⟨_, rfl⟩
  have hBW2 : Below W.heap.size W W2 := by rw [← hW2]; exact mem_alloc _ _
  have hXW2 : W2.heap[W.heap.size]? = some (mObj (.slice none 0 0) (.slice none 0 0)) := by rw [← hW2]; exact mem_new _ _
  have HK : Hid (∀ w', Below W2.heap.size W2 w' → w'.heap[w.heap.size]? = some (prgObj p sa sc ta tc) ∧ w'.heap[W.heap.size]? = some (mObj (.slice none 0 0) (.slice none 0 0)) ∧ PrgAt w' p sa ta ∧ Below w.heap.size w w') := fun w' hw => by
    have hb := mem_then (mem_then hBW hBW2) hw
    exact ⟨mem_keep (mem_keep hXW hBW2) hw, mem_keep hXW2 hw, hp.below hb, hb⟩
  have HWL : Hid (w.heap.size ≤ W.heap.size) := hBW.size
  have HWLT : Hid (W.heap.size < W2.heap.size) := mem_lt hXW2
  obtain ⟨hx1, _, hp2, _⟩ := HK.out W2 (Below.refl _ _)
  obtain ⟨x0, x1⟩ := mem_two hx1
  have HV := Lib.hid (valid_any p W2 sa ta sc tc hp2 (hg.below (mem_then hBW hBW2)))
  clear hp hg hBW hXW hBW2 hXW2 hx1 hp2
  go_enter Tryd.func21, Tryd.ntmps21
  go_wp2_with fail
  clear hW hW2 x0 x1
  refine HV.out.mono ?_
  rintro e w1 ⟨rfl, hB1⟩
  have HB1 := Lib.hid hB1
  obtain ⟨hx1, hx2, _, _⟩ := HK.out w1 hB1
  clear HV hB1
  cases hok : prgOk p with
  | false =>
    have HN : Hid (newP p = ⟨[], []⟩ ∧ newE p = 3) := ⟨if_neg (by rw [hok]; decide), if_neg (by rw [hok]; decide)⟩
    obtain ⟨z0, z1⟩ := mem_two hx2
    have f0 := mem_free hx2 0
    have f1 := mem_free hx2 1
    obtain ⟨E, hE⟩ : ∃ E : World, (w1.setCell ⟨W.heap.size, 0, none⟩ (.slice none 0 0)).setCell ⟨W.heap.size, 1, none⟩ (.slice none 0 0) = E := ⟨_, rfl⟩
    have hXE : E.heap[W.heap.size]? = some (mObj (.slice none 0 0) (.slice none 0 0)) := by rw [← hE, mem_set (mem_set hx2)]; rfl
    obtain ⟨q0, q1⟩ := mem_two hXE
    have HEB : Hid (Below w.heap.size w E) := by
      show Below _ _ _
      rw [← hE]
      exact ((HK.out w1 HB1.out).2.2.2.setCell (p := ⟨W.heap.size, 0, none⟩) HWL.out _).setCell (p := ⟨W.heap.size, 1, none⟩) HWL.out _
    clear hok hx1 hx2 hXE
    go_wp2_with fail
    refine bodyPost_ret (v := .tuple #[.agg #[.slice none 0 0, .slice none 0 0], .int .i64 3]) (by simp [results, Tryd.results21, go_sem, q0, q1]) rfl ?_
    exact ⟨none, 0, none, 0, by rw [HN.out.1, HN.out.2]; rfl, by rw [HN.out.1]; exact ⟨⟨Nat.zero_le _, .inl rfl⟩, ⟨Nat.zero_le _, .inl rfl⟩⟩, HEB.out⟩
  | true =>
  have HN : Hid (newP p = ⟨p.tasks.map (fun t => zP t.arrays), zP p.shared⟩ ∧ newE p = 0) := ⟨if_pos hok, if_pos hok⟩
  have HOK := Lib.hid hok
  have HSM : Hid (p.tasks.length ≤ 8) := (prgOk_le hok).2.1
  have hsm := (prgOk_le hok).2.1
  obtain ⟨W4, hW4⟩ : ∃ N : World, w1.alloc (mObj (.slice none 0 0) (.slice none 0 0)) = N := ⟨_, rfl⟩
  have hB4 : Below w1.heap.size w1 W4 := by rw [← hW4]; exact mem_alloc _ _
  have HX4 : Hid (W4.heap[w1.heap.size]? = some (mObj (.slice none 0 0) (.slice none 0 0))) := by show _ = _; rw [← hW4]; exact mem_new _ _
  have HB4 : Hid (Below W2.heap.size W2 W4) := mem_then HB1.out hB4
  have HW21 : Hid (W2.heap.size ≤ w1.heap.size) := HB1.out.size
  have HW24 : Hid (W2.heap.size ≤ W4.heap.size) := HB4.out.size
  obtain ⟨x0, x1⟩ := mem_two (mem_keep hx1 hB4)
  obtain ⟨i3, hi3, h30, h31, h32⟩ := info_parts cont3_info
  clear hok hx1 hx2 hB4
  go_upto_region 4 with fail
  try rw [hW4]
  go_wp2_with fail
  clear x0 x1 hW4
  go_loopw [14] (fun iv wr => ∃ (j : Nat) (v : Value) (vs : List Value) (us : List (List Value)), j ≤ p.tasks.length ∧ iv = .int .i64 (j : Int) ∧ wr.heap[w1.heap.size]? = some (mObj v (.slice none 0 0)) ∧ L3Own W4.heap.size wr v vs us ((p.tasks.take j).map (fun t => zP t.arrays)) ∧ Below W2.heap.size W2 wr ∧ W4.heap.size ≤ wr.heap.size) (fun iv _ => p.tasks.length - (intOf iv).toNat)
  case atStart => exact ⟨0, _, [], [], Nat.zero_le _, rfl, HX4.out, by rw [List.take_zero]; exact L3Own.nil, HB4.out, Nat.le_refl _⟩
  case round =>
    obtain ⟨j, v, vs, us, hj, rfl, hrb, hown, hB, hrws⟩ := hrel
    have HRB := Lib.hid hrb
    have HOWN := Lib.hid hown
    have HBR := Lib.hid hB
    have hj0 : (0 : Int) ≤ (j : Int) := by omega
    obtain ⟨va, vc, rfl⟩ := own_val hown.ro
    have htl : ((p.tasks.take j).map (fun t => zP t.arrays)).length = j := by rw [List.length_map, List.length_take]; omega
    have HTL := Lib.hid htl
    rw [htl] at HRB HOWN
    have HVR : Hid (wr.ownsRow W4.heap.size 27 1 (.slice va j vc) j vs) := by have h := HOWN.out.ro; rw [HTL.out] at h; exact h
    have HRWS := Lib.hid hrws
    clear hrb hown hB htl hrws
    by_cases hlt : j < p.tasks.length
    · skip
      have hlt2 : (j : Int) < (p.tasks.length : Int) := by omega
      obtain ⟨_, _, hpr, _⟩ := HK.out wr HBR.out
      obtain ⟨tb, tf, q, rfl, hc, hin⟩ := hpr.2.2 j hlt
      obtain ⟨t, ht⟩ : ∃ t, p.tasks.getD j Tsk.none = t := ⟨_, rfl⟩
      have htd : p.tasks[j]? = some t := by rw [← ht, List.getD_eq_getElem?_getD, List.getElem?_eq_getElem hlt]; rfl
      have HTA : Hid (t.arrays.length ≤ 4 ∧ ∀ x ∈ t.arrays, arrOk x = true) := tskOk_arrs (by have h := (prgOk_le HOK.out).2.2 j hlt; rw [ht] at h; exact h)
      rw [ht] at hc hin
      obtain ⟨⟨g0, g1, g2, g3, g4, g5, g6, g7⟩, hbl⟩ := tsk_cells (Below.refl _ _) hc
      obtain ⟨V, hV⟩ : ∃ V : World, wr.alloc (tskObj t q) = V := ⟨_, rfl⟩
      have hBV : Below wr.heap.size wr V := by rw [← hV]; exact mem_alloc _ _
      have HBV := Lib.hid hBV
      have HXV : Hid (V.heap[wr.heap.size]? = some (tskObj t q)) := by show _ = _; rw [← hV]; exact mem_new _ _
      have HIN := Lib.hid (hin.arrays.below hBV)
      have hal := hin.arrays.1
      have HTK : Hid ((p.tasks.take (j + 1)).map (fun t => zP t.arrays) = (p.tasks.take j).map (fun t => zP t.arrays) ++ [zP t.arrays]) := by show _ = _; rw [List.take_add_one, htd, List.map_append]; rfl
      clear hpr hc hin ht htd hBV
      go_upto_region 7 with fail
      try rw [hV]
      clear hV g0 g1 g2 g3 g4 g5 g6 g7
      have hD0 : Below V.heap.size V (World.drew V) := (Below.refl _ _).drew
      refine wp_region_held_drew (S := fun w' => Below W2.heap.size W2 w' ∧ w'.heap[wr.heap.size]? = some (tskObj t q)) (by kernel_rfl) ⟨mem_then HBR.out (mem_then HBV.out hD0), mem_keep HXV.out hD0⟩ (fun hHeld => ?_)
      generalize hwd : World.drew V = v1 at hHeld hD0 ⊢
      clear hwd
      have HD0 : Hid (Below wr.heap.size wr v1) := mem_then HBV.out hD0
      have HXT := Lib.hid (mem_keep HXV.out hD0)
      have HIN2 := Lib.hid (HIN.out.below hD0)
      clear hD0
      refine hT 0 (.pointer (some ⟨w1.heap.size, 0, none⟩)) rfl (hy := ?_) (h := ?_)
      · intro w' hSw; go_simp
      (try simp only [Act.put, pA, pB, pD, pE, pF])
      refine hT 2 (.pointer (some ⟨wr.heap.size, 3, none⟩)) rfl (hy := ?_) (h := ?_)
      · intro w' hSw; go_simp
      (try simp only [Act.put, pA, pB, pC, pD, pE, pF])
      refine hT 3 (.slice q.aa t.arrays.length q.ac) rfl (hy := ?_) (h := ?_)
      · intro w' hSw; have z0 := mem_cell hSw.2 3; simp only [List.getElem?_toArray, List.getElem?_cons_zero, List.getElem?_cons_succ] at z0; go_simp
      (try simp only [Act.put, pA, pB, pC, pD, pE, pF])
      refine wpAnyH_ready (rs := [1, 4]) (by kernel_rfl) (by simp) (AllReadyH.cons rfl (fun K hK => ?_) (AllReadyH.cons rfl (fun K hK => ?_) AllReadyH.nil))
      · skip
        have z0 := mem_cell (mem_keep HRB.out (HD0.out)) 0
        simp only [List.getElem?_toArray, List.getElem?_cons_zero] at z0
        go_simp
        refine hK.out _ _ (⟨mem_then HBR.out HD0.out, HXT.out⟩) (fun hHeld => ?_)
        clear hK K
        rename_i hOld
        clear hOld
        (try simp only [Act.put, pA, pB, pC, pD, pE, pF])
        clear z0
        refine hR 4 rfl (fun K hK => ?_)
        go_simp
        refine (zeros_any t.arrays q.aa q.ac v1 HIN2.out (by have := HTA.out.1; omega) (fun x hx => by have := arrOk_le (HTA.out.2 x hx); omega)).mono ?_
        rintro e w7 ⟨u, uq, rfl, hu, hB7⟩
        obtain ⟨ua, uc, rfl⟩ := own_val hu.ro
        have HU := Lib.hid hu
        have HB7 := Lib.hid hB7
        have HQL : Hid ((zP t.arrays).length ≤ 9223372036854775807) := by have h := HTA.out.1; show _ ≤ _; unfold zP; rw [List.length_map]; omega
        clear hu hB7
        refine hK.out _ _ (⟨mem_then HBR.out (mem_then HD0.out HB7.out), mem_keep HXT.out HB7.out⟩) (fun hHeld => ?_)
        clear hK K
        rename_i hOld
        clear hOld
        (try simp only [Act.put, pA, pB, pC, pD, pE, pF])
        refine hR 5 rfl (fun K hK => ?_)
        go_simp
        refine hK.out _ _ (⟨mem_then HBR.out (mem_then HD0.out (mem_then HB7.out (mem_alloc _ _))), mem_keep HXT.out (mem_then HB7.out (mem_alloc _ _))⟩) (fun hHeld => ?_)
        clear hK K
        rename_i hOld
        clear hOld
        (try simp only [Act.put, pA, pB, pC, pD, pE, pF])
        refine hR 6 rfl (fun K hK => ?_)
        refine step_append_src _ rfl (.tmp 19) (.tmp 23) 26 rfl W4.heap.size 27 i3 _ 1 24 Tryd.underlying26 hi3 h30 h31 h32 rfl (by decide) (.slice va j vc) j vs (by simp [Act.eval]) (own_below HVR.out (mem_then HD0.out (mem_then HB7.out (mem_alloc _ _)))) (some ⟨w7.heap.size, 0, none⟩) 1 1 [.slice ua (zP t.arrays).length uc] (by simp [Act.eval]) (src_new (mem_new _ _) rfl) (by simp [Value.oneCell']) (by unfold maxLen; omega) (by omega) (Nat.le_trans HRWS.out (mem_then HD0.out (mem_then HB7.out (mem_alloc _ _))).size) ?_
        intro r9 w9 hown hgrow _
        obtain ⟨ra9, rc9, rfl⟩ := own_val hown
        have hV := mem_then HD0.out (mem_then HB7.out (mem_alloc w7 (.cells #[.slice ua (zP t.arrays).length uc] 27)))
        have hx9 := grown_other (own_below HVR.out hV) hgrow _ _ _ (mem_keep HRB.out hV) (by decide)
        have ht9 := grown_other (own_below HVR.out hV) hgrow _ _ _ (mem_keep HXT.out (mem_then HB7.out (mem_alloc w7 (.cells #[.slice ua (zP t.arrays).length uc] 27)))) (by decide)
        have hne : wr.heap.size ≠ w1.heap.size := fun e => by have h1 := mem_lt HRB.out; omega
        have HL9 : Hid (L3Own W4.heap.size (w9.setCell ⟨w1.heap.size, 0, none⟩ (.slice ra9 (j + 1) rc9)) (.slice ra9 (j + 1) rc9) (vs ++ [.slice ua (zP t.arrays).length uc]) (us ++ [uq]) ((p.tasks.take (j + 1)).map (fun t => zP t.arrays))) := by
          show L3Own _ _ _ _ _ _
          rw [HTK.out]
          refine L3Own.move (T := 29) (HOWN.out.push hV ((HU.out.down HD0.out.size).keep (mem_alloc _ _)) HRWS.out ?_ ?_) (by decide) (by decide) (by decide) (set_other hx9)
          · exact hgrow
          · rw [HTL.out]; exact hown
        have HRB9 : Hid ((w9.setCell ⟨w1.heap.size, 0, none⟩ (.slice ra9 (j + 1) rc9)).heap[w1.heap.size]? = some (mObj (.slice ra9 (j + 1) rc9) (.slice none 0 0))) := by show _ = _; rw [mem_set hx9]; rfl
        have HT9 := Lib.hid ht9
        have HT9' : Hid ((w9.setCell ⟨w1.heap.size, 0, none⟩ (.slice ra9 (j + 1) rc9)).heap[wr.heap.size]? = some (tskObj t q)) := (Below.heap_setCell _ _ _ _ hne).trans ht9
        have HB9' : Hid (Below W2.heap.size W2 w9) := (mem_then HBR.out hV).grown hgrow (mem_then HBR.out hV).size (fun b hb => by have := (own_lt (own_below HVR.out hV) hb).1; have := HW24.out; omega)
        have HB9 : Hid (Below W2.heap.size W2 (w9.setCell ⟨w1.heap.size, 0, none⟩ (.slice ra9 (j + 1) rc9))) := HB9'.out.setCell (p := ⟨w1.heap.size, 0, none⟩) HW21.out _
        have HSZ9 : Hid (W4.heap.size ≤ (w9.setCell ⟨w1.heap.size, 0, none⟩ (.slice ra9 (j + 1) rc9)).heap.size) := by have h1 := HRWS.out; have h2 := hV.size; have h3 := hgrow.size; show _ ≤ _; simp at h2 h3 ⊢; omega
        have f9 := mem_free hx9 0
        have c9 := mem_cell hx9 0
        simp only [List.getElem?_toArray, List.getElem?_cons_zero] at c9
        clear hown hgrow hV hx9 ht9 hne
        refine hK.out _ _ (⟨HB9'.out, HT9.out⟩) (fun hHeld => ?_)
        clear hK K
        rename_i hOld
        clear hOld
        (try simp only [Act.put, pA, pB, pC, pD, pE, pF])
        refine hT 7 (.pointer (some ⟨w1.heap.size, 0, none⟩)) rfl (hy := ?_) (h := ?_)
        · intro w' hSw; go_simp
        (try simp only [Act.put, pA, pB, pC, pD, pE, pF])
        refine hR 8 rfl (fun K hK => ?_)
        go_simp
        refine hK.out _ _ (⟨HB9.out, HT9'.out⟩) (fun hHeld => ?_)
        clear hK K
        rename_i hOld
        clear hOld
        (try simp only [Act.put, pA, pB, pC, pD, pE, pF])
        clear f9 c9 hHeld
        refine wpAnyH_done (by kernel_rfl) ?_ _
        go_wp2_with fail
        go_roundw
        case rel => exact ⟨j + 1, .slice ra9 (j + 1) rc9, _, _, by omega, by go_num, HRB9.out, HL9.out, HB9.out, HSZ9.out⟩
        case measure => simp [intOf]; omega
      · go_simp
        refine (zeros_any t.arrays q.aa q.ac v1 HIN2.out (by have := HTA.out.1; omega) (fun x hx => by have := arrOk_le (HTA.out.2 x hx); omega)).mono ?_
        rintro e w7 ⟨u, uq, rfl, hu, hB7⟩
        obtain ⟨ua, uc, rfl⟩ := own_val hu.ro
        have HU := Lib.hid hu
        have HB7 := Lib.hid hB7
        have HQL : Hid ((zP t.arrays).length ≤ 9223372036854775807) := by have h := HTA.out.1; show _ ≤ _; unfold zP; rw [List.length_map]; omega
        clear hu hB7
        refine hK.out _ _ (⟨mem_then HBR.out (mem_then HD0.out HB7.out), mem_keep HXT.out HB7.out⟩) (fun hHeld => ?_)
        clear hK K
        rename_i hOld
        clear hOld
        (try simp only [Act.put, pA, pB, pC, pD, pE, pF])
        refine wpAnyH_ready (rs := [1, 5]) (by kernel_rfl) (by simp) (AllReadyH.cons rfl (fun K hK => ?_) (AllReadyH.cons rfl (fun K hK => ?_) AllReadyH.nil))
        · skip
          have z0 := mem_cell (mem_keep HRB.out (mem_then HD0.out HB7.out)) 0
          simp only [List.getElem?_toArray, List.getElem?_cons_zero] at z0
          go_simp
          refine hK.out _ _ (⟨mem_then HBR.out (mem_then HD0.out HB7.out), mem_keep HXT.out HB7.out⟩) (fun hHeld => ?_)
          clear hK K
          rename_i hOld
          clear hOld
          (try simp only [Act.put, pA, pB, pC, pD, pE, pF])
          clear z0
          refine hR 5 rfl (fun K hK => ?_)
          go_simp
          refine hK.out _ _ (⟨mem_then HBR.out (mem_then HD0.out (mem_then HB7.out (mem_alloc _ _))), mem_keep HXT.out (mem_then HB7.out (mem_alloc _ _))⟩) (fun hHeld => ?_)
          clear hK K
          rename_i hOld
          clear hOld
          (try simp only [Act.put, pA, pB, pC, pD, pE, pF])
          refine hR 6 rfl (fun K hK => ?_)
          refine step_append_src _ rfl (.tmp 19) (.tmp 23) 26 rfl W4.heap.size 27 i3 _ 1 24 Tryd.underlying26 hi3 h30 h31 h32 rfl (by decide) (.slice va j vc) j vs (by simp [Act.eval]) (own_below HVR.out (mem_then HD0.out (mem_then HB7.out (mem_alloc _ _)))) (some ⟨w7.heap.size, 0, none⟩) 1 1 [.slice ua (zP t.arrays).length uc] (by simp [Act.eval]) (src_new (mem_new _ _) rfl) (by simp [Value.oneCell']) (by unfold maxLen; omega) (by omega) (Nat.le_trans HRWS.out (mem_then HD0.out (mem_then HB7.out (mem_alloc _ _))).size) ?_
          intro r9 w9 hown hgrow _
          obtain ⟨ra9, rc9, rfl⟩ := own_val hown
          have hV := mem_then HD0.out (mem_then HB7.out (mem_alloc w7 (.cells #[.slice ua (zP t.arrays).length uc] 27)))
          have hx9 := grown_other (own_below HVR.out hV) hgrow _ _ _ (mem_keep HRB.out hV) (by decide)
          have ht9 := grown_other (own_below HVR.out hV) hgrow _ _ _ (mem_keep HXT.out (mem_then HB7.out (mem_alloc w7 (.cells #[.slice ua (zP t.arrays).length uc] 27)))) (by decide)
          have hne : wr.heap.size ≠ w1.heap.size := fun e => by have h1 := mem_lt HRB.out; omega
          have HL9 : Hid (L3Own W4.heap.size (w9.setCell ⟨w1.heap.size, 0, none⟩ (.slice ra9 (j + 1) rc9)) (.slice ra9 (j + 1) rc9) (vs ++ [.slice ua (zP t.arrays).length uc]) (us ++ [uq]) ((p.tasks.take (j + 1)).map (fun t => zP t.arrays))) := by
            show L3Own _ _ _ _ _ _
            rw [HTK.out]
            refine L3Own.move (T := 29) (HOWN.out.push hV ((HU.out.down HD0.out.size).keep (mem_alloc _ _)) HRWS.out ?_ ?_) (by decide) (by decide) (by decide) (set_other hx9)
            · exact hgrow
            · rw [HTL.out]; exact hown
          have HRB9 : Hid ((w9.setCell ⟨w1.heap.size, 0, none⟩ (.slice ra9 (j + 1) rc9)).heap[w1.heap.size]? = some (mObj (.slice ra9 (j + 1) rc9) (.slice none 0 0))) := by show _ = _; rw [mem_set hx9]; rfl
          have HT9 := Lib.hid ht9
          have HT9' : Hid ((w9.setCell ⟨w1.heap.size, 0, none⟩ (.slice ra9 (j + 1) rc9)).heap[wr.heap.size]? = some (tskObj t q)) := (Below.heap_setCell _ _ _ _ hne).trans ht9
          have HB9' : Hid (Below W2.heap.size W2 w9) := (mem_then HBR.out hV).grown hgrow (mem_then HBR.out hV).size (fun b hb => by have := (own_lt (own_below HVR.out hV) hb).1; have := HW24.out; omega)
          have HB9 : Hid (Below W2.heap.size W2 (w9.setCell ⟨w1.heap.size, 0, none⟩ (.slice ra9 (j + 1) rc9))) := HB9'.out.setCell (p := ⟨w1.heap.size, 0, none⟩) HW21.out _
          have HSZ9 : Hid (W4.heap.size ≤ (w9.setCell ⟨w1.heap.size, 0, none⟩ (.slice ra9 (j + 1) rc9)).heap.size) := by have h1 := HRWS.out; have h2 := hV.size; have h3 := hgrow.size; show _ ≤ _; simp at h2 h3 ⊢; omega
          have f9 := mem_free hx9 0
          have c9 := mem_cell hx9 0
          simp only [List.getElem?_toArray, List.getElem?_cons_zero] at c9
          clear hown hgrow hV hx9 ht9 hne
          refine hK.out _ _ (⟨HB9'.out, HT9.out⟩) (fun hHeld => ?_)
          clear hK K
          rename_i hOld
          clear hOld
          (try simp only [Act.put, pA, pB, pC, pD, pE, pF])
          refine hT 7 (.pointer (some ⟨w1.heap.size, 0, none⟩)) rfl (hy := ?_) (h := ?_)
          · intro w' hSw; go_simp
          (try simp only [Act.put, pA, pB, pC, pD, pE, pF])
          refine hR 8 rfl (fun K hK => ?_)
          go_simp
          refine hK.out _ _ (⟨HB9.out, HT9'.out⟩) (fun hHeld => ?_)
          clear hK K
          rename_i hOld
          clear hOld
          (try simp only [Act.put, pA, pB, pC, pD, pE, pF])
          clear f9 c9 hHeld
          refine wpAnyH_done (by kernel_rfl) ?_ _
          go_wp2_with fail
          go_roundw
          case rel => exact ⟨j + 1, .slice ra9 (j + 1) rc9, _, _, by omega, by go_num, HRB9.out, HL9.out, HB9.out, HSZ9.out⟩
          case measure => simp [intOf]; omega
        · go_simp
          refine hK.out _ _ (⟨mem_then HBR.out (mem_then HD0.out (mem_then HB7.out (mem_alloc _ _))), mem_keep HXT.out (mem_then HB7.out (mem_alloc _ _))⟩) (fun hHeld => ?_)
          clear hK K
          rename_i hOld
          clear hOld
          (try simp only [Act.put, pA, pB, pC, pD, pE, pF])
          have z0 := mem_cell (mem_keep HRB.out (mem_then HD0.out (mem_then HB7.out (mem_alloc w7 (.cells #[.slice ua (zP t.arrays).length uc] 27))))) 0
          simp only [List.getElem?_toArray, List.getElem?_cons_zero] at z0
          refine hR 1 rfl (fun K hK => ?_)
          go_simp
          refine hK.out _ _ (⟨mem_then HBR.out (mem_then HD0.out (mem_then HB7.out (mem_alloc _ _))), mem_keep HXT.out (mem_then HB7.out (mem_alloc _ _))⟩) (fun hHeld => ?_)
          clear hK K
          rename_i hOld
          clear hOld
          (try simp only [Act.put, pA, pB, pC, pD, pE, pF])
          clear z0
          refine hR 6 rfl (fun K hK => ?_)
          refine step_append_src _ rfl (.tmp 19) (.tmp 23) 26 rfl W4.heap.size 27 i3 _ 1 24 Tryd.underlying26 hi3 h30 h31 h32 rfl (by decide) (.slice va j vc) j vs (by simp [Act.eval]) (own_below HVR.out (mem_then HD0.out (mem_then HB7.out (mem_alloc _ _)))) (some ⟨w7.heap.size, 0, none⟩) 1 1 [.slice ua (zP t.arrays).length uc] (by simp [Act.eval]) (src_new (mem_new _ _) rfl) (by simp [Value.oneCell']) (by unfold maxLen; omega) (by omega) (Nat.le_trans HRWS.out (mem_then HD0.out (mem_then HB7.out (mem_alloc _ _))).size) ?_
          intro r9 w9 hown hgrow _
          obtain ⟨ra9, rc9, rfl⟩ := own_val hown
          have hV := mem_then HD0.out (mem_then HB7.out (mem_alloc w7 (.cells #[.slice ua (zP t.arrays).length uc] 27)))
          have hx9 := grown_other (own_below HVR.out hV) hgrow _ _ _ (mem_keep HRB.out hV) (by decide)
          have ht9 := grown_other (own_below HVR.out hV) hgrow _ _ _ (mem_keep HXT.out (mem_then HB7.out (mem_alloc w7 (.cells #[.slice ua (zP t.arrays).length uc] 27)))) (by decide)
          have hne : wr.heap.size ≠ w1.heap.size := fun e => by have h1 := mem_lt HRB.out; omega
          have HL9 : Hid (L3Own W4.heap.size (w9.setCell ⟨w1.heap.size, 0, none⟩ (.slice ra9 (j + 1) rc9)) (.slice ra9 (j + 1) rc9) (vs ++ [.slice ua (zP t.arrays).length uc]) (us ++ [uq]) ((p.tasks.take (j + 1)).map (fun t => zP t.arrays))) := by
            show L3Own _ _ _ _ _ _
            rw [HTK.out]
            refine L3Own.move (T := 29) (HOWN.out.push hV ((HU.out.down HD0.out.size).keep (mem_alloc _ _)) HRWS.out ?_ ?_) (by decide) (by decide) (by decide) (set_other hx9)
            · exact hgrow
            · rw [HTL.out]; exact hown
          have HRB9 : Hid ((w9.setCell ⟨w1.heap.size, 0, none⟩ (.slice ra9 (j + 1) rc9)).heap[w1.heap.size]? = some (mObj (.slice ra9 (j + 1) rc9) (.slice none 0 0))) := by show _ = _; rw [mem_set hx9]; rfl
          have HT9 := Lib.hid ht9
          have HT9' : Hid ((w9.setCell ⟨w1.heap.size, 0, none⟩ (.slice ra9 (j + 1) rc9)).heap[wr.heap.size]? = some (tskObj t q)) := (Below.heap_setCell _ _ _ _ hne).trans ht9
          have HB9' : Hid (Below W2.heap.size W2 w9) := (mem_then HBR.out hV).grown hgrow (mem_then HBR.out hV).size (fun b hb => by have := (own_lt (own_below HVR.out hV) hb).1; have := HW24.out; omega)
          have HB9 : Hid (Below W2.heap.size W2 (w9.setCell ⟨w1.heap.size, 0, none⟩ (.slice ra9 (j + 1) rc9))) := HB9'.out.setCell (p := ⟨w1.heap.size, 0, none⟩) HW21.out _
          have HSZ9 : Hid (W4.heap.size ≤ (w9.setCell ⟨w1.heap.size, 0, none⟩ (.slice ra9 (j + 1) rc9)).heap.size) := by have h1 := HRWS.out; have h2 := hV.size; have h3 := hgrow.size; show _ ≤ _; simp at h2 h3 ⊢; omega
          have f9 := mem_free hx9 0
          have c9 := mem_cell hx9 0
          simp only [List.getElem?_toArray, List.getElem?_cons_zero] at c9
          clear hown hgrow hV hx9 ht9 hne
          refine hK.out _ _ (⟨HB9'.out, HT9.out⟩) (fun hHeld => ?_)
          clear hK K
          rename_i hOld
          clear hOld
          (try simp only [Act.put, pA, pB, pC, pD, pE, pF])
          refine hT 7 (.pointer (some ⟨w1.heap.size, 0, none⟩)) rfl (hy := ?_) (h := ?_)
          · intro w' hSw; go_simp
          (try simp only [Act.put, pA, pB, pC, pD, pE, pF])
          refine hR 8 rfl (fun K hK => ?_)
          go_simp
          refine hK.out _ _ (⟨HB9.out, HT9'.out⟩) (fun hHeld => ?_)
          clear hK K
          rename_i hOld
          clear hOld
          (try simp only [Act.put, pA, pB, pC, pD, pE, pF])
          clear f9 c9 hHeld
          refine wpAnyH_done (by kernel_rfl) ?_ _
          go_wp2_with fail
          go_roundw
          case rel => exact ⟨j + 1, .slice ra9 (j + 1) rc9, _, _, by omega, by go_num, HRB9.out, HL9.out, HB9.out, HSZ9.out⟩
          case measure => simp [intOf]; omega
    · obtain rfl : j = p.tasks.length := by omega
      obtain ⟨wo, hwo⟩ : ∃ wo : World, wo = wr := ⟨_, rfl⟩
      subst hwo
      have HOWN2 : Hid (L3Own W4.heap.size wo (.slice va p.tasks.length vc) vs us (p.tasks.map (fun t => zP t.arrays))) := by have h := HOWN.out; rw [List.take_length] at h; exact h
      obtain ⟨hx1, _, hpr, _⟩ := HK.out wo HBR.out
      obtain ⟨x0, x1⟩ := mem_two hx1
      have HSA : Hid (p.shared.length ≤ 4 ∧ ∀ x ∈ p.shared, arrOk x = true) := prgOk_shared HOK.out
      have H9 := Lib.hid (zeros_any p.shared sa sc wo hpr.1 (by have := HSA.out.1; omega) (fun x hx => by have := arrOk_le (HSA.out.2 x hx); omega))
      clear hx1 hpr
      go_wp2_with fail
      clear x0 x1
      refine H9.out.mono ?_
      rintro e w8 ⟨u, uq, rfl, hu, hB8⟩
      obtain ⟨ua, uc, rfl⟩ := own_val hu.ro
      have HU := Lib.hid hu
      have HB8 := Lib.hid (mem_then HBR.out hB8)
      have HRB8 := Lib.hid (mem_keep HRB.out hB8)
      have HOWN8 := Lib.hid (HOWN2.out.keep hB8)
      clear H9 hu hB8
      have c1 := (mem_two HRB8.out).2
      have c0 := (mem_two HRB8.out).1
      have f1 := mem_free HRB8.out 1
      obtain ⟨X, hX⟩ : ∃ X : World, w8.setCell ⟨w1.heap.size, 1, none⟩ (.slice ua (zP p.shared).length uc) = X := ⟨_, rfl⟩
      have HXX : Hid (X.heap[w1.heap.size]? = some (mObj (.slice va p.tasks.length vc) (.slice ua (zP p.shared).length uc))) := by show _ = _; rw [← hX, mem_set HRB8.out]; rfl
      have HXB : Hid (Below W2.heap.size W2 X) := by show Below _ _ _; rw [← hX]; exact HB8.out.setCell (p := ⟨w1.heap.size, 1, none⟩) HW21.out _
      have HXM : Hid (∀ (k : Nat) arr t, w8.heap[k]? = some (.cells arr t) → t ≠ 29 → X.heap[k]? = some (.cells arr t)) := by rw [← hX]; exact set_other HRB8.out
      have HX2 : Hid (X.heap[W.heap.size]? = some (mObj (.slice none 0 0) (.slice none 0 0))) := (HK.out X HXB.out).2.1
      obtain ⟨y0, y1⟩ := mem_two HXX.out
      obtain ⟨z0, z1⟩ := mem_two HX2.out
      have g0 := mem_free HX2.out 0
      have g1 := mem_free HX2.out 1
      obtain ⟨E, hE⟩ : ∃ E : World, (X.setCell ⟨W.heap.size, 0, none⟩ (.slice va p.tasks.length vc)).setCell ⟨W.heap.size, 1, none⟩ (.slice ua (zP p.shared).length uc) = E := ⟨_, rfl⟩
      have hXE : E.heap[W.heap.size]? = some (mObj (.slice va p.tasks.length vc) (.slice ua (zP p.shared).length uc)) := by rw [← hE, mem_set (mem_set HX2.out)]; rfl
      obtain ⟨q0, q1⟩ := mem_two hXE
      have HEB : Hid (Below w.heap.size w E) := by
        show Below _ _ _
        rw [← hE]
        exact ((HK.out X HXB.out).2.2.2.setCell (p := ⟨W.heap.size, 0, none⟩) HWL.out _).setCell (p := ⟨W.heap.size, 1, none⟩) HWL.out _
      have HEM : Hid (∀ (k : Nat) arr t, w8.heap[k]? = some (.cells arr t) → t ≠ 29 → E.heap[k]? = some (.cells arr t)) := fun k arr t hk ht => by
        have h1 := HXM.out k arr t hk ht
        have h2 : k ≠ W.heap.size := fun e => by rw [e, HX2.out] at h1; cases h1; exact ht rfl
        rw [← hE, Below.heap_setCell _ _ _ _ h2, Below.heap_setCell _ _ _ _ h2]
        exact h1
      clear hXE
      go_wp2_with fail
      refine bodyPost_ret (v := .tuple #[.agg #[.slice va p.tasks.length vc, .slice ua (zP p.shared).length uc], .int .i64 0]) (by simp [results, Tryd.results21, go_sem, q0, q1]) rfl ?_
      have hL3 := HOWN8.out.move (T := 29) (by decide) (by decide) (by decide) HEM.out
      have hLS := HU.out.move (T := 29) (by decide) (by decide) HEM.out
      have hml : (p.tasks.map (fun t => zP t.arrays)).length = p.tasks.length := by rw [List.length_map]
      refine ⟨va, vc, ua, uc, ?_, ?_, HEB.out⟩
      · rw [HN.out.1, HN.out.2]
        show Ending.returned (Value.tuple #[.agg #[.slice va p.tasks.length vc, _], _]) = Ending.returned (Value.tuple #[.agg #[.slice va (p.tasks.map _).length vc, _], _])
        rw [List.length_map]
      · rw [HN.out.1]
        refine ⟨cont3_end (n := p.tasks.length) (by have h := hL3.ro; rw [hml] at h; exact h) hml (by have := HSM.out; omega) (fun k r hk => ?_), cont_own hLS rfl (by have := HSA.out.1; unfold zP; rw [List.length_map]; omega) zP_word⟩
        obtain ⟨u, qq, e1, e2, e3⟩ := hL3.ri k r hk
        obtain ⟨a9, c9, rfl⟩ := own_val e3.ro
        rw [List.getElem?_map] at hk
        obtain ⟨t, ht, rfl⟩ := Option.map_eq_some_iff.1 hk
        have hta : t.arrays.length ≤ 4 := by
          have h1 := (List.getElem?_eq_some_iff.1 ht).1
          have h2 := (prgOk_le HOK.out).2.2 k h1
          rw [List.getD_eq_getElem?_getD, ht] at h2
          exact (tskOk_arrs h2).1
        exact ⟨a9, c9, e1, fun h => by subst h; exact own_none e3.ro, cont_own e3 rfl (by unfold zP; rw [List.length_map]; omega) zP_word⟩
end Go.Proofs.YtgochgcchkdlmaaDoor
