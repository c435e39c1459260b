/-
  The law InterpApart (package ontimelaw16).
-/
import Derived.Test.YtgochgcchkdlmaaDoorInCopies
namespace Go.Proofs.YtgochgcchkdlmaaDoor
set_option linter.unusedVariables false
set_option linter.unusedSimpArgs false
open Go.RowKit Go.Maps
set_option maxRecDepth 100000
set_option maxHeartbeats 80000000

theorem smallP_le {L : List (List Int)} (h : smallP L = true) : L.length ≤ 10 ∧ ∀ r ∈ L, r.length ≤ 70 := by
  unfold smallP at h
  rw [Bool.and_eq_true] at h
  refine ⟨of_decide_eq_true h.2, fun r hr => ?_⟩
  simpa using List.all_eq_true.1 h.1 r hr
/-- what the law considers is small -/
theorem bigP_small {p : Prg} {M : Mem} {n : Nat} (h : bigP p M n = false) : (M.shared.length ≤ 10 ∧ ∀ r ∈ M.shared, r.length ≤ 70) ∧ M.arrays.length ≤ 10 ∧ ∀ t ∈ M.arrays, t.length ≤ 10 ∧ ∀ r ∈ t, r.length ≤ 70 := by
  unfold bigP at h
  simp only [Bool.or_eq_false_iff, decide_eq_false_iff_not, Bool.not_eq_false'] at h
  obtain ⟨_, h1, h2, _, h3⟩ := h
  refine ⟨smallP_le h1, by omega, fun t ht => smallP_le ?_⟩
  rw [List.any_eq_false] at h3
  simpa using h3 t ht
theorem apart_any (p : Prg) (task : Int) (M : Mem) (inp : List Int) (by_ : Int) (w : World) (sa ta : Option Addr) (sc tc : Nat) (ma ms : Option Addr) (mac msc : Nat) (ia : Option Addr) (ic : Nat)
    (hp : PrgAt w p sa ta) (hm : MemAt w M ma ms) (hi : WordsAt w ia inp) (hg : SignsIn w) (ht : isI64 task) :
    Calls Tryd.prog 7 #[p.val sa sc ta tc, .int .i64 task, M.val ma mac ms msc, .slice ia inp.length ic, .int .i32 by_] w fun e w' => e = .returned (.bool true) ∧ Below w.heap.size w w' := by
  have hil := hi.fits
  have hmf := hm.1.fits
  have hmsf := hm.2.fits
  obtain ⟨W, hW⟩ : ∃ W : World, w.alloc (prgObj p sa sc ta tc) = W := ⟨_, rfl⟩
  have hBW : Below w.heap.size w W := by rw [← hW]; exact mem_alloc _ _
  have hXW : W.heap[w.heap.size]? = some (prgObj p sa sc ta tc) := by rw [← hW]; exact mem_new _ _
  obtain ⟨W2, hW2⟩ : ∃ W2 : World, W.alloc (memObj M ma mac ms msc) = W2 := ⟨_, rfl⟩
  have hBW2 : Below W.heap.size W W2 := by rw [← hW2]; exact mem_alloc _ _
  have hXW2 : W2.heap[W.heap.size]? = some (memObj M ma mac ms msc) := by rw [← hW2]; exact mem_new _ _
  have HK : Hid (∀ w', Below W2.heap.size W2 w' → w'.heap[w.heap.size]? = some (prgObj p sa sc ta tc) ∧ w'.heap[W.heap.size]? = some (memObj M ma mac ms msc) ∧ PrgAt w' p sa ta ∧ MemAt w' M ma ms ∧ WordsAt w' ia inp ∧ SignsIn w' ∧ Below w.heap.size w w') := fun w' hw => by
    have hb := mem_then (mem_then hBW hBW2) hw
    exact ⟨mem_keep (mem_keep hXW hBW2) hw, mem_keep hXW2 hw, hp.below hb, hm.below hb, hi.below hb, hg.below hb, hb⟩
  have HAW := Lib.hid (awake_any W2 (HK.out W2 (Below.refl _ _)).2.2.2.2.2.1)
  have HT := Lib.hid ht
  have HWA := Lib.hid (cont3_words hm.1)
  have HWS := Lib.hid (cont_words hm.2)
  clear hp hm hi hg hBW hXW hBW2 hXW2 ht
  go_enter Tryd.func7, Tryd.ntmps7
  go_wp2_with fail
  clear hW hW2
  refine HAW.out.mono ?_
  rintro e w1 ⟨rfl, hB1⟩
  have HB1 := Lib.hid hB1
  obtain ⟨hx1, hx2, hp1, hm1, _, _, _⟩ := HK.out w1 hB1
  obtain ⟨x0, x1⟩ := mem_two hx1
  obtain ⟨y0, y1⟩ := mem_two hx2
  have HGR := Lib.hid (great16_any p M inp.length w1 sa ta sc tc ma ms mac msc ia ic hp1 hm1 hil)
  clear HAW hB1 hx1 hx2 hp1 hm1
  go_wp2_with fail
  clear x0 x1 y0 y1
  refine HGR.out.mono ?_
  rintro e w2 ⟨rfl, hB2⟩
  have HB2 := Lib.hid (mem_then HB1.out hB2)
  clear HGR hB2
  cases hbig : bigP p M inp.length with
  | true =>
    have hbn := bigN_t hbig
    clear hbig
    go_wp2_with fail
    go_ret
    exact ⟨rfl, (HK.out w2 HB2.out).2.2.2.2.2.2⟩
  | false =>
  have hbn := bigN_f hbig
  have hn40 := bigP_f hbig
  have HSM := Lib.hid (bigP_small hbig)
  obtain ⟨hx1, hx2, hp1, hm1, _, hg1, _⟩ := HK.out w2 HB2.out
  obtain ⟨x0, x1⟩ := mem_two hx1
  obtain ⟨y0, y1⟩ := mem_two hx2
  have HRN := Lib.hid (runnable_any p task M w2 sa ta sc tc ma ms mac msc hp1 hm1 hg1 HT.out)
  clear hbig hx1 hx2 hp1 hm1 hg1
  go_wp2_with fail
  clear x0 x1 y0 y1
  refine HRN.out.mono ?_
  rintro e w3 ⟨rfl, hB3⟩
  have HB3 := Lib.hid (mem_then HB2.out hB3)
  clear HRN hB3
  cases hrun : runP p task M with
  | false =>
    clear hrun
    go_wp2_with fail
    go_ret
    exact ⟨rfl, (HK.out w3 HB3.out).2.2.2.2.2.2⟩
  | true =>
  have HMORE := Lib.hid (apart_more (b := by_) (inp := inp) (F := 3000) hrun)
  obtain ⟨hx1, hx2, _, hm1, _, _, _⟩ := HK.out w3 HB3.out
  obtain ⟨x0, x1⟩ := mem_two hx1
  obtain ⟨y0, y1⟩ := mem_two hx2
  have HCL := Lib.hid (clone16_any M w3 ma ms mac msc hm1 ⟨by have := HSM.out.1.1; omega, fun r hr => by have := HSM.out.1.2 r hr; omega⟩ ⟨by have := HSM.out.2.1; omega, fun t ht => ⟨by have := (HSM.out.2.2 t ht).1; omega, fun r hr => by have := (HSM.out.2.2 t ht).2 r hr; omega⟩⟩)
  clear hrun hx1 hx2 hm1
  go_wp2_with fail
  clear x0 x1 y0 y1
  refine HCL.out.mono ?_
  rintro e w4 ⟨ca, cac, cs, csc, vs, us, ss, N1, rfl, hmo, hB4⟩
  obtain ⟨V, hV⟩ : ∃ V : World, w4.alloc (memObj M ca cac cs csc) = V := ⟨_, rfl⟩
  have hBV : Below w4.heap.size w4 V := by rw [← hV]; exact mem_alloc _ _
  have HXV : Hid (V.heap[w4.heap.size]? = some (memObj M ca cac cs csc)) := by show _ = _; rw [← hV]; exact mem_new _ _
  have HBV : Hid (Below w3.heap.size w3 V) := mem_then hB4 hBV
  have HMV := Lib.hid (hmo.keep hBV)
  have HN1 : Hid (w3.heap.size ≤ N1) := hmo.le
  obtain ⟨y0, y1⟩ := mem_two HXV.out
  clear HCL hmo hB4 hBV
  go_upto_region 7 with fail
  clear y0 y1 hV
  -- the arrays of the other tasks
  go_loopw [38] (fun iv wr => ∃ j : Nat, j ≤ M.arrays.length ∧ iv = .int .i64 (j : Int) ∧ MOwn w3.heap.size N1 wr ⟨upTo (byT by_ task) j M.arrays, M.shared⟩ (.slice ca M.arrays.length cac) vs us (.slice cs M.shared.length csc) ss ∧ wr.heap[w4.heap.size]? = some (memObj M ca cac cs csc) ∧ Below w3.heap.size w3 wr) (fun iv _ => M.arrays.length - (intOf iv).toNat)
  case atStart => exact ⟨0, Nat.zero_le _, rfl, by rw [upTo_zero]; exact HMV.out, HXV.out, HBV.out⟩
  case round =>
    obtain ⟨j, hj, rfl, hmo, hx, hB⟩ := hrel
    have HMO := Lib.hid hmo
    have HX := Lib.hid hx
    have HB := Lib.hid hB
    have hj0 : (0 : Int) ≤ (j : Int) := by omega
    clear hmo hx hB
    by_cases hlt : j < M.arrays.length
    · have hlt2 : (j : Int) < (M.arrays.length : Int) := by omega
      obtain ⟨t, ht⟩ : ∃ t, M.arrays[j]? = some t := ⟨_, List.getElem?_eq_getElem hlt⟩
      have HTJ := Lib.hid ht
      by_cases he : (j : Int) = task
      · have HN : Hid (upTo (byT by_ task) (j + 1) M.arrays = upTo (byT by_ task) j M.arrays) := by
          show _ = _
          rw [upTo_succ ht, show byT by_ task j t = t from if_pos he, upTo_self ht]
        subst he
        clear ht
        go_wp2_with fail
        go_roundw
        case rel => exact ⟨j + 1, by omega, by go_num, by rw [HN.out]; exact HMO.out, HX.out, HB.out⟩
        case measure => simp [intOf]; omega
      · have hed : ((j : Int) == task) = false := by rw [beq_eq_false_iff_ne]; exact he
        have hed2 : decide ((j : Int) = task) = false := decide_eq_false he
        have htl := (HSM.out.2.2 t (List.mem_of_getElem? ht)).1
        have HTL := Lib.hid (HSM.out.2.2 t (List.mem_of_getElem? ht)).2
        have hat : (upTo (byT by_ task) j M.arrays)[j]? = some t := upTo_at ht
        obtain ⟨u0, zs, hu1, hu2, hu3⟩ := HMO.out.arrs.ri j t hat
        obtain ⟨ua, uc, rfl⟩ := own_val hu3.ro
        have HU1 := Lib.hid hu1
        have HU2 := Lib.hid hu2
        have hro : wr.ownsRow N1 27 1 (.slice ca M.arrays.length cac) M.arrays.length vs := by
          have h := HMO.out.arrs.ro
          have e : (⟨upTo (byT by_ task) j M.arrays, M.shared⟩ : Mem).arrays.length = M.arrays.length := upTo_len _ _ _
          rw [e] at h
          exact h
        obtain ⟨cb, hca, hcb1, hcb2⟩ := own_at hro (by omega)
        have hcell : wr.cell? ⟨cb, j, none⟩ = some (.slice ua t.length uc) := by
          rw [hca] at hro
          exact own_get hro hu1
        have HN : Hid ((upTo (byT by_ task) j M.arrays).set j (t.mapIdx (byL by_)) = upTo (byT by_ task) (j + 1) M.arrays) := by
          show _ = _
          rw [upTo_succ ht, show byT by_ task j t = t.mapIdx (byL by_) from if_neg he]
        have HST : Hid ((upTo (byT by_ task) j M.arrays).set j (upTo (byL by_) 0 t) = upTo (byT by_ task) j M.arrays) := by
          show _ = _
          rw [upTo_zero, upTo_self ht]
        have HJL : Hid (j < (upTo (byT by_ task) j M.arrays).length) := by show _ < _; rw [upTo_len]; exact hlt
        obtain ⟨X, hX⟩ : ∃ X, upTo (byT by_ task) j M.arrays = X := ⟨_, rfl⟩
        rw [hX] at HMO HN HST HJL
        have hxc := HX.out
        rw [hca] at hxc
        obtain ⟨y0, y1⟩ := mem_two hxc
        have hbl4 := mem_lt hxc
        subst hca
        clear he ht hat hu1 hu2 hu3 hX hxc HTJ hro
        go_upto_region 11 with fail
        clear y0 y1 hcell
        obtain ⟨wo, hwo⟩ : ∃ wo : World, wo = wr := ⟨_, rfl⟩
        subst hwo
        go_loopw [50] (fun iv wr => ∃ k : Nat, k ≤ t.length ∧ iv = .int .i64 (k : Int) ∧ MOwn w3.heap.size N1 wr ⟨X.set j (upTo (byL by_) k t), M.shared⟩ (.slice (some ⟨cb, 0, none⟩) M.arrays.length cac) vs us (.slice cs M.shared.length csc) ss ∧ wr.heap[w4.heap.size]? = some (memObj M (some ⟨cb, 0, none⟩) cac cs csc) ∧ Below w3.heap.size w3 wr) (fun iv _ => t.length - (intOf iv).toNat)
        case atStart => exact ⟨0, Nat.zero_le _, rfl, by rw [HST.out]; exact HMO.out, HX.out, HB.out⟩
        case round =>
          obtain ⟨k, hk, rfl, hmo, hx, hB⟩ := hrel
          have HMO2 := Lib.hid hmo
          have HX2 := Lib.hid hx
          have HB2' := Lib.hid hB
          have hk0 : (0 : Int) ≤ (k : Int) := by omega
          clear hmo hx hB
          by_cases hlk : k < t.length
          · have hlk2 : (k : Int) < (t.length : Int) := by omega
            obtain ⟨l, hl⟩ : ∃ l, t[k]? = some l := ⟨_, List.getElem?_eq_getElem hlk⟩
            have hll := HTL.out l (List.mem_of_getElem? hl)
            have hat : (upTo (byL by_) k t)[k]? = some l := upTo_at hl
            have hXj : (X.set j (upTo (byL by_) k t))[j]? = some (upTo (byL by_) k t) := by rw [List.getElem?_set, if_pos rfl, if_pos HJL.out]
            obtain ⟨u1, zs1, hu1, hu2, hu3⟩ := HMO2.out.arrs.ri j _ hXj
            have hu2 : us[j]? = some zs1 := hu2
            have hu1 : vs[j]? = some u1 := hu1
            rw [HU2.out] at hu2
            rw [HU1.out] at hu1
            cases hu1
            cases hu2
            obtain ⟨z, hz1, hz2⟩ := hu3.ri k l hat
            obtain ⟨za, zc, rfl⟩ := own_val hz2
            have HZ1 := Lib.hid hz1
            have hro : wr.ownsRow N1 30 1 (.slice ua t.length uc) t.length zs := by have h := hu3.ro; rw [upTo_len] at h; exact h
            obtain ⟨db, rfl, hdb1, hdb2⟩ := own_at hro (by omega)
            have hcell : wr.cell? ⟨db, k, none⟩ = some (.slice za l.length zc) := own_get hro hz1
            have HN2 : Hid ((X.set j (upTo (byL by_) k t)).set j ((upTo (byL by_) k t).set k (l.mapIdx (byW by_))) = X.set j (upTo (byL by_) (k + 1) t)) := by
              show _ = _
              rw [List.set_set, upTo_succ hl]
              rfl
            have HST2 : Hid ((X.set j (upTo (byL by_) k t)).set j ((upTo (byL by_) k t).set k (upTo (byW by_) 0 l)) = X.set j (upTo (byL by_) k t)) := by
              show _ = _
              rw [List.set_set, upTo_zero, upTo_self hl]
            have HKL : Hid (k < (upTo (byL by_) k t).length) := by show _ < _; rw [upTo_len]; exact hlk
            obtain ⟨Y, hY⟩ : ∃ Y, upTo (byL by_) k t = Y := ⟨_, rfl⟩
            rw [hY] at HMO2 HN2 HST2 HKL
            clear hl hat hXj hu3 hz1 hz2 hro hY
            go_upto_region 14 with fail
            clear hcell
            obtain ⟨wp, hwp⟩ : ∃ wp : World, wp = wr := ⟨_, rfl⟩
            subst hwp
            go_loopw [56] (fun iv wr => ∃ q : Nat, q ≤ l.length ∧ iv = .int .i64 (q : Int) ∧ MOwn w3.heap.size N1 wr ⟨(X.set j Y).set j (Y.set k (upTo (byW by_) q l)), M.shared⟩ (.slice (some ⟨cb, 0, none⟩) M.arrays.length cac) vs us (.slice cs M.shared.length csc) ss ∧ wr.heap[w4.heap.size]? = some (memObj M (some ⟨cb, 0, none⟩) cac cs csc) ∧ Below w3.heap.size w3 wr) (fun iv _ => l.length - (intOf iv).toNat)
            case atStart => exact ⟨0, Nat.zero_le _, rfl, by rw [HST2.out]; exact HMO2.out, HX2.out, HB2'.out⟩
            case round =>
              obtain ⟨q, hq, rfl, hmo, hx, hB⟩ := hrel
              have HMO3 := Lib.hid hmo
              have HX3 := Lib.hid hx
              have HB3' := Lib.hid hB
              have hq0 : (0 : Int) ≤ (q : Int) := by omega
              clear hmo hx hB
              by_cases hlq : q < l.length
              · have hlq2 : (q : Int) < (l.length : Int) := by omega
                obtain ⟨x, hx⟩ : ∃ x, l[q]? = some x := ⟨_, List.getElem?_eq_getElem hlq⟩
                have hXj : ((X.set j Y).set j (Y.set k (upTo (byW by_) q l)))[j]? = some (Y.set k (upTo (byW by_) q l)) := by rw [List.getElem?_set, if_pos rfl, if_pos (by rw [List.length_set]; exact HJL.out)]
                have hYk : (Y.set k (upTo (byW by_) q l))[k]? = some (upTo (byW by_) q l) := by rw [List.getElem?_set, if_pos rfl, if_pos HKL.out]
                obtain ⟨u1, zs1, hu1, hu2, hu3⟩ := HMO3.out.arrs.ri j _ hXj
                have hu2 : us[j]? = some zs1 := hu2
                rw [HU2.out] at hu2
                cases hu2
                obtain ⟨z, hz1, hz2⟩ := hu3.ri k _ hYk
                rw [HZ1.out] at hz1
                cases hz1
                have hro : wr.ownsRow N1 21 1 (.slice za l.length zc) l.length (i32s (upTo (byW by_) q l)) := by have h := hz2; rw [upTo_len] at h; exact h
                obtain ⟨eb, rfl, heb1, heb2⟩ := own_at hro (by omega)
                have hcell : wr.cell? ⟨eb, q, none⟩ = some (.int .i32 x) := own_get hro (by unfold i32s; rw [List.getElem?_map, upTo_at hx]; rfl)
                obtain ⟨cur, hcur⟩ := own_new hro rfl
                have hfr := mem_free hcur q
                have hP := HMO3.out.put (x := byW by_ q x) hXj hYk HU2.out HZ1.out (by rw [upTo_len]; exact hlq)
                have hP2 : MOwn w3.heap.size N1 (wr.setCell ⟨eb, q, none⟩ (.int .i32 (byW by_ q x))) ⟨(X.set j Y).set j (Y.set k (upTo (byW by_) (q + 1) l)), M.shared⟩ (.slice (some ⟨cb, 0, none⟩) M.arrays.length cac) vs us (.slice cs M.shared.length csc) ss := by
                  have e : ((X.set j Y).set j (Y.set k (upTo (byW by_) q l))).set j ((Y.set k (upTo (byW by_) q l)).set k ((upTo (byW by_) q l).set q (byW by_ q x))) = (X.set j Y).set j (Y.set k (upTo (byW by_) (q + 1) l)) := by
                    simp only [List.set_set, upTo_succ hx]
                  rw [← e]
                  exact hP
                have HP := Lib.hid hP2
                have HXP : Hid ((wr.setCell ⟨eb, q, none⟩ (.int .i32 (byW by_ q x))).heap[w4.heap.size]? = some (memObj M (some ⟨cb, 0, none⟩) cac cs csc)) := set_other hcur _ _ _ HX3.out (by decide)
                have HBP : Hid (Below w3.heap.size w3 (wr.setCell ⟨eb, q, none⟩ (.int .i32 (byW by_ q x)))) := HB3'.out.setCell (p := ⟨eb, q, none⟩) (Nat.le_trans HN1.out heb1) _
                unfold byW at HP HXP HBP
                clear hx hXj hYk hu1 hu3 hz2 hro hcur hP hP2
                go_wp2_with fail
                go_roundw
                case rel => exact ⟨q + 1, by omega, by go_num, HP.out, HXP.out, HBP.out⟩
                case measure => simp [intOf]; omega
              · obtain rfl : q = l.length := by omega
                have HE : Hid (MOwn w3.heap.size N1 wr ⟨X.set j (upTo (byL by_) (k + 1) t), M.shared⟩ (.slice (some ⟨cb, 0, none⟩) M.arrays.length cac) vs us (.slice cs M.shared.length csc) ss) := by
                  have h := HMO3.out
                  rw [upTo_all, HN2.out] at h
                  exact h
                clear HMO3
                go_wp2_with fail
                go_roundw
                case rel => exact ⟨k + 1, by omega, by go_num, HE.out, HX3.out, HB3'.out⟩
                case measure => simp [intOf]; omega
          · obtain rfl : k = t.length := by omega
            have HE : Hid (MOwn w3.heap.size N1 wr ⟨upTo (byT by_ task) (j + 1) M.arrays, M.shared⟩ (.slice (some ⟨cb, 0, none⟩) M.arrays.length cac) vs us (.slice cs M.shared.length csc) ss) := by
              have h := HMO2.out
              rw [upTo_all, HN.out] at h
              exact h
            clear HMO2
            go_wp2_with fail
            go_roundw
            case rel => exact ⟨j + 1, by omega, by go_num, HE.out, HX2.out, HB2'.out⟩
            case measure => simp [intOf]; omega
    · obtain rfl : j = M.arrays.length := by omega
      obtain ⟨M2, hM2⟩ : ∃ M2, othersBy M task by_ = M2 := ⟨_, rfl⟩
      have hup : (⟨upTo (byT by_ task) M.arrays.length M.arrays, M.shared⟩ : Mem) = M2 := by rw [← hM2, upTo_all]; rfl
      have hl2 : M2.arrays.length = M.arrays.length := by rw [← hM2]; exact othersBy_len
      have HL2 := Lib.hid hl2
      have HAT2 : Hid (∀ k : Nat, k < M.arrays.length → ∃ t, M2.arrays[k]? = some t) := fun k hk => ⟨_, List.getElem?_eq_getElem (by rw [HL2.out]; exact hk)⟩
      have hs2 : M2.shared = M.shared := by rw [← hM2]; rfl
      have hma : MemAt wr M2 ca cs := by
        have h := HMO.out
        rw [hup] at h
        have hlens : ∀ t ∈ M2.arrays, t.length ≤ 1000 := fun t ht => by
          obtain ⟨k, hk⟩ := List.getElem?_of_mem ht
          rw [← hM2] at hk
          unfold othersBy at hk
          rw [List.getElem?_mapIdx] at hk
          obtain ⟨t0, h0, rfl⟩ := Option.map_eq_some_iff.1 hk
          have h1 := (HSM.out.2.2 t0 (List.mem_of_getElem? h0)).1
          unfold byT
          split
          · omega
          · rw [List.length_mapIdx]; omega
        have hwords : ∀ t ∈ M2.arrays, ∀ r ∈ t, ∀ x ∈ r, Wd.W x := fun t ht => by
          obtain ⟨k, hk⟩ := List.getElem?_of_mem ht
          rw [← hM2] at hk
          unfold othersBy at hk
          rw [List.getElem?_mapIdx] at hk
          obtain ⟨t0, h0, rfl⟩ := Option.map_eq_some_iff.1 hk
          unfold byT
          split
          · exact HWA.out t0 (List.mem_of_getElem? h0)
          · intro r hr
            obtain ⟨q, hq⟩ := List.getElem?_of_mem hr
            rw [List.getElem?_mapIdx] at hq
            obtain ⟨l0, _, rfl⟩ := Option.map_eq_some_iff.1 hq
            exact byL_words
        exact h.at_ ⟨by have := HSM.out.2.1; omega, hlens⟩ (by rw [hs2]; have := HSM.out.1.1; omega) hwords (by rw [hs2]; exact HWS.out)
      have HM2 := Lib.hid hma
      have HLS2 : Hid (M2.shared.length = M.shared.length) := by show _ = _; rw [hs2]
      have HX2 : Hid (wr.heap[w4.heap.size]? = some (memObj M2 ca cac cs csc)) := by
        have h := HX.out
        show _ = some (Obj.cells #[.slice ca M2.arrays.length cac, .slice cs M2.shared.length csc] 29)
        rw [hl2, hs2]
        exact h
      have HBW : Hid (Below W2.heap.size W2 wr) := mem_then HB3.out HB.out
      obtain ⟨i0, X, Y, out, rd, st, err, hti, hil2, hR, hS⟩ := HMORE.out
      rw [hM2] at hS
      have hbf := hma.1.fits
      have hsf := hma.2.fits
      obtain ⟨hx1, hx2, hp1, hm1, hi1, hg1, _⟩ := HK.out wr HBW.out
      obtain ⟨x0, x1⟩ := mem_two hx1
      obtain ⟨y0, y1⟩ := mem_two hx2
      have HJ := Lib.hid (job_any p task M inp 3000 wr sa ta sc tc ma ms mac msc ia ic hp1 hm1 hi1 hg1 HT.out (by decide) (by omega))
      obtain ⟨R, hRe⟩ : ∃ R, jobP p task M inp 3000 = R := ⟨_, rfl⟩
      obtain ⟨S, hSe⟩ : ∃ S, jobP p task M2 inp 3000 = S := ⟨_, rfl⟩
      rw [hRe] at hR HJ
      have HSE := Lib.hid hSe
      rw [hSe] at hS
      have HRA : Hid (R.mem.arrays = M.arrays.set i0 X ∧ S.mem.arrays = M2.arrays.set i0 X ∧ R.mem.shared = S.mem.shared) := by show _ ∧ _ ∧ _; rw [hR, hS]; exact ⟨rfl, rfl, rfl⟩
      have q1 : decide (R.out = S.out) = true := by rw [hR, hS]; exact decide_eq_true rfl
      have q2 : (R.err != S.err) = false := by rw [hR, hS]; simp
      have q3 : ((R.st : Int) != (S.st : Int)) = false := by rw [hR, hS]; simp
      have q4 : ((R.rd : Int) != (S.rd : Int)) = false := by rw [hR, hS]; simp
      have q5 : ((R.mem.arrays.length : Int) != (M.arrays.length : Int)) = false := by rw [hR]; simp
      have q6 : ((S.mem.arrays.length : Int) != (M.arrays.length : Int)) = false := by rw [hS]; simp [hl2]
      have hRl : R.mem.arrays.length = M.arrays.length := by rw [hR]; simp
      have hSl : S.mem.arrays.length = M.arrays.length := by rw [hS]; simp [hl2]
      have HLEN := Lib.hid (And.intro hRl hSl)
      have q7 : decide (R.mem.shared = S.mem.shared) = true := by rw [hR, hS]; exact decide_eq_true rfl
      have HTI := Lib.hid hti
      clear hl2 hs2 hma hM2 hup hR hS hRe hSe hRl hSl hx1 hx2 hp1 hm1 hi1 hg1 hti HMORE HMO
      go_wp2_with fail
      clear x0 x1 y0 y1
      refine HJ.out.mono ?_
      rintro e w5 ⟨aa, ac, ra, rc, oa, oc, rfl, hra, hB5, _⟩
      obtain ⟨V5, hV5⟩ : ∃ V : World, w5.alloc (Res.obj R aa ac ra rc oa oc) = V := ⟨_, rfl⟩
      have hBV5 : Below w5.heap.size w5 V5 := by rw [← hV5]; exact mem_alloc _ _
      have HXR : Hid (V5.heap[w5.heap.size]? = some (Res.obj R aa ac ra rc oa oc)) := by show _ = _; rw [← hV5]; exact mem_new _ _
      have HB5 : Hid (Below wr.heap.size wr V5) := mem_then hB5 hBV5
      have HRS : Hid (ResAt V5 R aa ra oa) := ⟨hra.mem.below hBV5, hra.out.below hBV5⟩
      have hx5 := mem_keep HX2.out HB5.out
      obtain ⟨y0, y1⟩ := mem_two hx5
      have hbl4 := mem_lt hx5
      obtain ⟨hx1, hx2, hp1, _, hi1, hg1, _⟩ := HK.out V5 (mem_then HBW.out HB5.out)
      obtain ⟨x0, x1⟩ := mem_two hx1
      have HJ2 := Lib.hid (job_any p task M2 inp 3000 V5 sa ta sc tc ca cs cac csc ia ic hp1 (HM2.out.below HB5.out) hi1 hg1 HT.out (by decide) (by omega))
      rw [HSE.out] at HJ2
      clear HJ hra hB5 hBV5 hx5 hx1 hx2 hp1 hi1 hg1
      go_wp2_with fail
      clear x0 x1 y0 y1 hV5
      refine HJ2.out.mono ?_
      rintro e w6 ⟨ba, bc, ta', tc', oa', oc', rfl, hrb, hB6, _⟩
      obtain ⟨V6, hV6⟩ : ∃ V : World, w6.alloc (Res.obj S ba bc ta' tc' oa' oc') = V := ⟨_, rfl⟩
      have hBV6 : Below w6.heap.size w6 V6 := by rw [← hV6]; exact mem_alloc _ _
      have HXS : Hid (V6.heap[w6.heap.size]? = some (Res.obj S ba bc ta' tc' oa' oc')) := by show _ = _; rw [← hV6]; exact mem_new _ _
      have HB6 : Hid (Below V5.heap.size V5 V6) := mem_then hB6 hBV6
      have HSS : Hid (ResAt V6 S ba ta' oa') := ⟨hrb.mem.below hBV6, hrb.out.below hBV6⟩
      have HRS6 : Hid (ResAt V6 R aa ra oa) := ⟨HRS.out.mem.below HB6.out, HRS.out.out.below HB6.out⟩
      obtain ⟨z0, z1, z2, z3, z4, z5⟩ := res_cells HXS.out
      obtain ⟨x0, x1, x2, x3, x4, x5⟩ := res_cells (mem_keep HXR.out HB6.out)
      have HO := Lib.hid (outputs_any R.out S.out oa oa' oc oc' V6 HRS6.out.out HSS.out.out)
      clear HJ2 hrb hB6 hBV6
      go_wp2_with fail
      clear x0 x1 x2 x3 x4 x5 z0 z1 z2 z3 z4 z5 hV6
      refine HO.out.mono ?_
      rintro e w7 ⟨rfl, hB7⟩
      rw [q1]
      have HB7 := Lib.hid hB7
      obtain ⟨z0, z1, z2, z3, z4, z5⟩ := res_cells (mem_keep HXS.out hB7)
      obtain ⟨x0, x1, x2, x3, x4, x5⟩ := res_cells (mem_keep HXR.out (mem_then HB6.out hB7))
      have HBW7 : Hid (Below W2.heap.size W2 w7) := mem_then HBW.out (mem_then HB5.out (mem_then HB6.out hB7))
      obtain ⟨_, hx2, _⟩ := HK.out w7 HBW7.out
      obtain ⟨y0, y1⟩ := mem_two hx2
      have HKEEP : Hid (∀ w', Below w7.heap.size w7 w' → w'.heap[w5.heap.size]? = some (Res.obj R aa ac ra rc oa oc) ∧ w'.heap[w6.heap.size]? = some (Res.obj S ba bc ta' tc' oa' oc') ∧ w'.heap[W.heap.size]? = some (memObj M ma mac ms msc) ∧ w'.heap[w4.heap.size]? = some (memObj M2 ca cac cs csc) ∧ MemAt w' R.mem aa ra ∧ MemAt w' S.mem ba ta' ∧ MemAt w' M ma ms ∧ MemAt w' M2 ca cs ∧ Below w.heap.size w w') := fun w' hw => by
        obtain ⟨_, h2, _, h4, _, _, h7⟩ := HK.out w' (mem_then HBW7.out hw)
        exact ⟨mem_keep HXR.out (mem_then HB6.out (mem_then HB7.out hw)), mem_keep HXS.out (mem_then HB7.out hw), h2, mem_keep HX2.out (mem_then HB5.out (mem_then HB6.out (mem_then HB7.out hw))), HRS.out.mem.below (mem_then HB6.out (mem_then HB7.out hw)), HSS.out.mem.below (mem_then HB7.out hw), h4, HM2.out.below (mem_then HB5.out (mem_then HB6.out (mem_then HB7.out hw))), h7⟩
      clear HO hB7 hx2
      go_wp2_with fail
      clear x0 x1 x2 x3 x4 x5 z0 z1 z2 z3 z4 z5 y0 y1
      go_loopw [129] (fun iv wr => ∃ j : Nat, j ≤ M.arrays.length ∧ iv = .int .i64 (j : Int) ∧ Below w7.heap.size w7 wr) (fun iv _ => M.arrays.length - (intOf iv).toNat)
      case atStart => exact ⟨0, Nat.zero_le _, rfl, Below.refl _ _⟩
      case round =>
        obtain ⟨j, hj, rfl, hB⟩ := hrel
        have HBJ := Lib.hid hB
        have hj0 : (0 : Int) ≤ (j : Int) := by omega
        clear hB
        by_cases hlt : j < M.arrays.length
        · have hlt2 : (j : Int) < (M.arrays.length : Int) := by omega
          have hltR : (j : Int) < (R.mem.arrays.length : Int) := by have := HLEN.out.1; omega
          have hltS : (j : Int) < (S.mem.arrays.length : Int) := by have := HLEN.out.2; omega
          have hlt3 : (j : Int) < (M2.arrays.length : Int) := by have := HL2.out; omega
          have hltR' : j < R.mem.arrays.length := by have := HLEN.out.1; omega
          have hltS' : j < S.mem.arrays.length := by have := HLEN.out.2; omega
          have hlt3' : j < M2.arrays.length := by have := HL2.out; omega
          obtain ⟨r1, hr1⟩ : ∃ r, R.mem.arrays[j]? = some r := ⟨_, List.getElem?_eq_getElem hltR'⟩
          obtain ⟨r2, hr2⟩ : ∃ r, S.mem.arrays[j]? = some r := ⟨_, List.getElem?_eq_getElem hltS'⟩
          obtain ⟨r3, hr3⟩ : ∃ r, M.arrays[j]? = some r := ⟨_, List.getElem?_eq_getElem hlt⟩
          obtain ⟨r4, hr4⟩ : ∃ r, M2.arrays[j]? = some r := ⟨_, List.getElem?_eq_getElem hlt3'⟩
          obtain ⟨_, _, _, _, k1, k2, k3, k4, _⟩ := HKEEP.out wr HBJ.out
          obtain ⟨b1, o1, e1, ra1, rc1, hc1, _, hw1⟩ := k1.1.row hr1
          obtain ⟨b2, o2, e2, ra2, rc2, hc2, _, hw2⟩ := k2.1.row hr2
          obtain ⟨b3, o3, e3, ra3, rc3, hc3, _, hw3⟩ := k3.1.row hr3
          obtain ⟨b4, o4, e4, ra4, rc4, hc4, _, hw4⟩ := k4.1.row hr4
          subst e1 e2 e3 e4
          have HC := Lib.hid (And.intro hc1 (And.intro hc2 (And.intro hc3 hc4)))
          have HW := Lib.hid (And.intro hw1 (And.intro hw2 (And.intro hw3 hw4)))
          have HEQ1 : Hid ((j : Int) = task → decide (r1 = r2) = true) := fun h => decide_eq_true (by
            have e : i0 = j := by have := HTI.out; omega
            rw [HRA.out.1, e, List.getElem?_set, if_pos rfl, if_pos hlt] at hr1
            rw [HRA.out.2.1, e, List.getElem?_set, if_pos rfl, if_pos hlt3'] at hr2
            rw [← Option.some.inj hr1, ← Option.some.inj hr2])
          have HEQ2 : Hid (¬ (j : Int) = task → decide (r1 = r3) = true ∧ decide (r2 = r4) = true) := fun h => by
            have e : ¬ i0 = j := by have := HTI.out; omega
            rw [HRA.out.1, List.getElem?_set, if_neg e, hr3] at hr1
            rw [HRA.out.2.1, List.getElem?_set, if_neg e, hr4] at hr2
            exact ⟨decide_eq_true (Option.some.inj hr1).symm, decide_eq_true (Option.some.inj hr2).symm⟩
          have n1 := World.block_lt_of_cell? _ _ hc1
          have n2 := World.block_lt_of_cell? _ _ hc2
          have n3 := World.block_lt_of_cell? _ _ hc3
          have n4 := World.block_lt_of_cell? _ _ hc4
          clear hr1 hr2 hr3 hr4 k1 k2 k3 k4 hw1 hw2 hw3 hw4 hc1 hc2 hc3 hc4
          have hcw : ∀ w', Below wr.heap.size wr w' → (w'.cell? ⟨b1, o1 + j, none⟩ = some (.slice ra1 r1.length rc1) ∧ w'.cell? ⟨b2, o2 + j, none⟩ = some (.slice ra2 r2.length rc2) ∧ w'.cell? ⟨b3, o3 + j, none⟩ = some (.slice ra3 r3.length rc3) ∧ w'.cell? ⟨b4, o4 + j, none⟩ = some (.slice ra4 r4.length rc4)) := fun w' hw => ⟨cell_stay hw HC.out.1, cell_stay hw HC.out.2.1, cell_stay hw HC.out.2.2.1, cell_stay hw HC.out.2.2.2⟩
          have HCW := Lib.hid hcw
          clear hcw
          by_cases he : (j : Int) = task
          · have hed : ((j : Int) == task) = true := by rw [beq_iff_eq]; exact he
            have hq := HEQ1.out he
            clear he
            go_upto_region 28 with fail
            have hD0 : Below wr.heap.size wr (World.drew wr) := (Below.refl _ _).drew
            refine wp_region_held_drew (S := fun w' => Below wr.heap.size wr w') (by kernel_rfl) hD0 (fun hHeld => ?_)
            generalize hwd : World.drew wr = v1 at hHeld hD0 ⊢
            clear hwd hD0
            refine wpAnyH_take (i := 0) (v := .pointer (some ⟨w5.heap.size, 0, none⟩)) rfl (by kernel_rfl) (by kernel_rfl) (by kernel_rfl) (fun _ _ _ h => h) (Or.inl ⟨by rfl, ?_⟩) (by assumption) ?_
            · intro w' hSw; go_simp
            (try simp only [Act.put, List.getElem_toArray, List.getElem_cons_zero, List.setIfInBounds_toArray, List.set_cons_zero, List.set_cons_succ])
            refine wpAnyH_take (i := 1) (v := .pointer (some ⟨w5.heap.size, 0, none⟩)) rfl (by kernel_rfl) (by kernel_rfl) (by kernel_rfl) (fun _ _ _ h => h) (Or.inl ⟨by rfl, ?_⟩) (by assumption) ?_
            · intro w' hSw; go_simp
            (try simp only [Act.put, List.getElem_toArray, List.getElem_cons_zero, List.getElem_cons_succ, List.setIfInBounds_toArray, List.set_cons_zero, List.set_cons_succ])
            refine wpAnyH_take (i := 2) (v := .slice (some ⟨b1, o1, none⟩) R.mem.arrays.length ac) rfl (by kernel_rfl) (by kernel_rfl) (by kernel_rfl) (fun _ _ _ h => h) (Or.inl ⟨by rfl, ?_⟩) (by assumption) ?_
            · intro w' hSw; obtain ⟨g0, g1, g2, g3, g4, g5⟩ := res_cells (HKEEP.out _ (mem_then HBJ.out hSw)).1; go_simp
            (try simp only [Act.put, List.getElem_toArray, List.getElem_cons_zero, List.getElem_cons_succ, List.setIfInBounds_toArray, List.set_cons_zero, List.set_cons_succ])
            refine wpAnyH_take (i := 3) (v := .int .i64 (j : Int)) rfl (by kernel_rfl) (by kernel_rfl) (by kernel_rfl) (fun _ _ _ h => h) (Or.inl ⟨by rfl, ?_⟩) (by assumption) ?_
            · intro w' hSw; go_simp
            (try simp only [Act.put, List.getElem_toArray, List.getElem_cons_zero, List.getElem_cons_succ, List.setIfInBounds_toArray, List.set_cons_zero, List.set_cons_succ])
            refine wpAnyH_take (i := 4) (v := .pointer (some ⟨b1, o1 + j, none⟩)) rfl (by kernel_rfl) (by kernel_rfl) (by kernel_rfl) (fun _ _ _ h => h) (Or.inl ⟨by rfl, ?_⟩) (by assumption) ?_
            · intro w' hSw; go_simp
            (try simp only [Act.put, List.getElem_toArray, List.getElem_cons_zero, List.getElem_cons_succ, List.setIfInBounds_toArray, List.set_cons_zero, List.set_cons_succ])
            refine wpAnyH_take (i := 5) (v := .slice ra1 r1.length rc1) rfl (by kernel_rfl) (by kernel_rfl) (by kernel_rfl) (fun _ _ _ h => h) (Or.inl ⟨by rfl, ?_⟩) (by assumption) ?_
            · intro w' hSw; obtain ⟨g1, g2, g3, g4⟩ := HCW.out _ hSw; go_simp
            (try simp only [Act.put, List.getElem_toArray, List.getElem_cons_zero, List.getElem_cons_succ, List.setIfInBounds_toArray, List.set_cons_zero, List.set_cons_succ])
            refine wpAnyH_take (i := 6) (v := .pointer (some ⟨w6.heap.size, 0, none⟩)) rfl (by kernel_rfl) (by kernel_rfl) (by kernel_rfl) (fun _ _ _ h => h) (Or.inl ⟨by rfl, ?_⟩) (by assumption) ?_
            · intro w' hSw; go_simp
            (try simp only [Act.put, List.getElem_toArray, List.getElem_cons_zero, List.getElem_cons_succ, List.setIfInBounds_toArray, List.set_cons_zero, List.set_cons_succ])
            refine wpAnyH_take (i := 7) (v := .pointer (some ⟨w6.heap.size, 0, none⟩)) rfl (by kernel_rfl) (by kernel_rfl) (by kernel_rfl) (fun _ _ _ h => h) (Or.inl ⟨by rfl, ?_⟩) (by assumption) ?_
            · intro w' hSw; go_simp
            (try simp only [Act.put, List.getElem_toArray, List.getElem_cons_zero, List.getElem_cons_succ, List.setIfInBounds_toArray, List.set_cons_zero, List.set_cons_succ])
            refine wpAnyH_take (i := 8) (v := .slice (some ⟨b2, o2, none⟩) S.mem.arrays.length bc) rfl (by kernel_rfl) (by kernel_rfl) (by kernel_rfl) (fun _ _ _ h => h) (Or.inl ⟨by rfl, ?_⟩) (by assumption) ?_
            · intro w' hSw; obtain ⟨g0, g1, g2, g3, g4, g5⟩ := res_cells (HKEEP.out _ (mem_then HBJ.out hSw)).2.1; go_simp
            (try simp only [Act.put, List.getElem_toArray, List.getElem_cons_zero, List.getElem_cons_succ, List.setIfInBounds_toArray, List.set_cons_zero, List.set_cons_succ])
            refine wpAnyH_take (i := 9) (v := .int .i64 (j : Int)) rfl (by kernel_rfl) (by kernel_rfl) (by kernel_rfl) (fun _ _ _ h => h) (Or.inl ⟨by rfl, ?_⟩) (by assumption) ?_
            · intro w' hSw; go_simp
            (try simp only [Act.put, List.getElem_toArray, List.getElem_cons_zero, List.getElem_cons_succ, List.setIfInBounds_toArray, List.set_cons_zero, List.set_cons_succ])
            refine wpAnyH_take (i := 10) (v := .pointer (some ⟨b2, o2 + j, none⟩)) rfl (by kernel_rfl) (by kernel_rfl) (by kernel_rfl) (fun _ _ _ h => h) (Or.inl ⟨by rfl, ?_⟩) (by assumption) ?_
            · intro w' hSw; go_simp
            (try simp only [Act.put, List.getElem_toArray, List.getElem_cons_zero, List.getElem_cons_succ, List.setIfInBounds_toArray, List.set_cons_zero, List.set_cons_succ])
            refine wpAnyH_take (i := 11) (v := .slice ra2 r2.length rc2) rfl (by kernel_rfl) (by kernel_rfl) (by kernel_rfl) (fun _ _ _ h => h) (Or.inl ⟨by rfl, ?_⟩) (by assumption) ?_
            · intro w' hSw; obtain ⟨g1, g2, g3, g4⟩ := HCW.out _ hSw; go_simp
            (try simp only [Act.put, List.getElem_toArray, List.getElem_cons_zero, List.getElem_cons_succ, List.setIfInBounds_toArray, List.set_cons_zero, List.set_cons_succ])
            refine wpAnyH_ready (rs := [12]) (by kernel_rfl) (by simp) (AllReadyH.cons rfl (fun K hK => ?_) AllReadyH.nil)
            go_simp
            refine (lists_any r1 r2 ra1 ra2 rc1 rc2 v1 (HW.out.1.below hHeld) (HW.out.2.1.below hHeld)).mono ?_
            rintro e w8 ⟨rfl, hB8⟩
            rw [hq]
            have HB8 := Lib.hid (mem_then hHeld hB8)
            clear hB8
            refine hK.out _ _ (HB8.out) (fun hHeld => ?_)
            clear hK K
            rename_i hOld
            clear hOld
            (try simp only [Act.put, List.getElem_toArray, List.getElem_cons_zero, List.getElem_cons_succ, List.setIfInBounds_toArray, List.set_cons_zero, List.set_cons_succ])
            refine wpAnyH_take (i := 13) (v := .bool false) rfl (by kernel_rfl) (by kernel_rfl) (by kernel_rfl) (fun _ _ _ h => h) (Or.inl ⟨by rfl, ?_⟩) (by assumption) ?_
            · intro w' hSw; go_simp
            (try simp only [Act.put, List.getElem_toArray, List.getElem_cons_zero, List.getElem_cons_succ, List.setIfInBounds_toArray, List.set_cons_zero, List.set_cons_succ])
            clear hHeld
            refine wpAnyH_done (by kernel_rfl) ?_ _
            go_wp2_with fail
            go_roundw
            case rel => exact ⟨j + 1, by omega, by go_num, mem_then HBJ.out HB8.out⟩
            case measure => simp [intOf]; omega
          · have hed : ((j : Int) == task) = false := by rw [beq_eq_false_iff_ne]; exact he
            obtain ⟨hq, hq2⟩ := HEQ2.out he
            clear he
            go_upto_region 30 with fail
            have hD0 : Below wr.heap.size wr (World.drew wr) := (Below.refl _ _).drew
            refine wp_region_held_drew (S := fun w' => Below wr.heap.size wr w') (by kernel_rfl) hD0 (fun hHeld => ?_)
            generalize hwd : World.drew wr = v1 at hHeld hD0 ⊢
            clear hwd hD0
            refine wpAnyH_take (i := 0) (v := .pointer (some ⟨w5.heap.size, 0, none⟩)) rfl (by kernel_rfl) (by kernel_rfl) (by kernel_rfl) (fun _ _ _ h => h) (Or.inl ⟨by rfl, ?_⟩) (by assumption) ?_
            · intro w' hSw; go_simp
            (try simp only [Act.put, List.getElem_toArray, List.getElem_cons_zero, List.setIfInBounds_toArray, List.set_cons_zero, List.set_cons_succ])
            refine wpAnyH_take (i := 1) (v := .pointer (some ⟨w5.heap.size, 0, none⟩)) rfl (by kernel_rfl) (by kernel_rfl) (by kernel_rfl) (fun _ _ _ h => h) (Or.inl ⟨by rfl, ?_⟩) (by assumption) ?_
            · intro w' hSw; go_simp
            (try simp only [Act.put, List.getElem_toArray, List.getElem_cons_zero, List.getElem_cons_succ, List.setIfInBounds_toArray, List.set_cons_zero, List.set_cons_succ])
            refine wpAnyH_take (i := 2) (v := .slice (some ⟨b1, o1, none⟩) R.mem.arrays.length ac) rfl (by kernel_rfl) (by kernel_rfl) (by kernel_rfl) (fun _ _ _ h => h) (Or.inl ⟨by rfl, ?_⟩) (by assumption) ?_
            · intro w' hSw; obtain ⟨g0, g1, g2, g3, g4, g5⟩ := res_cells (HKEEP.out _ (mem_then HBJ.out hSw)).1; go_simp
            (try simp only [Act.put, List.getElem_toArray, List.getElem_cons_zero, List.getElem_cons_succ, List.setIfInBounds_toArray, List.set_cons_zero, List.set_cons_succ])
            refine wpAnyH_take (i := 3) (v := .int .i64 (j : Int)) rfl (by kernel_rfl) (by kernel_rfl) (by kernel_rfl) (fun _ _ _ h => h) (Or.inl ⟨by rfl, ?_⟩) (by assumption) ?_
            · intro w' hSw; go_simp
            (try simp only [Act.put, List.getElem_toArray, List.getElem_cons_zero, List.getElem_cons_succ, List.setIfInBounds_toArray, List.set_cons_zero, List.set_cons_succ])
            refine wpAnyH_take (i := 4) (v := .pointer (some ⟨b1, o1 + j, none⟩)) rfl (by kernel_rfl) (by kernel_rfl) (by kernel_rfl) (fun _ _ _ h => h) (Or.inl ⟨by rfl, ?_⟩) (by assumption) ?_
            · intro w' hSw; go_simp
            (try simp only [Act.put, List.getElem_toArray, List.getElem_cons_zero, List.getElem_cons_succ, List.setIfInBounds_toArray, List.set_cons_zero, List.set_cons_succ])
            refine wpAnyH_take (i := 5) (v := .slice ra1 r1.length rc1) rfl (by kernel_rfl) (by kernel_rfl) (by kernel_rfl) (fun _ _ _ h => h) (Or.inl ⟨by rfl, ?_⟩) (by assumption) ?_
            · intro w' hSw; obtain ⟨g1, g2, g3, g4⟩ := HCW.out _ hSw; go_simp
            (try simp only [Act.put, List.getElem_toArray, List.getElem_cons_zero, List.getElem_cons_succ, List.setIfInBounds_toArray, List.set_cons_zero, List.set_cons_succ])
            refine wpAnyH_take (i := 6) (v := .pointer (some ⟨W.heap.size, 0, none⟩)) rfl (by kernel_rfl) (by kernel_rfl) (by kernel_rfl) (fun _ _ _ h => h) (Or.inl ⟨by rfl, ?_⟩) (by assumption) ?_
            · intro w' hSw; go_simp
            (try simp only [Act.put, List.getElem_toArray, List.getElem_cons_zero, List.getElem_cons_succ, List.setIfInBounds_toArray, List.set_cons_zero, List.set_cons_succ])
            refine wpAnyH_take (i := 7) (v := .slice (some ⟨b3, o3, none⟩) M.arrays.length mac) rfl (by kernel_rfl) (by kernel_rfl) (by kernel_rfl) (fun _ _ _ h => h) (Or.inl ⟨by rfl, ?_⟩) (by assumption) ?_
            · intro w' hSw; obtain ⟨g0, g1⟩ := mem_two (HKEEP.out _ (mem_then HBJ.out hSw)).2.2.1; go_simp
            (try simp only [Act.put, List.getElem_toArray, List.getElem_cons_zero, List.getElem_cons_succ, List.setIfInBounds_toArray, List.set_cons_zero, List.set_cons_succ])
            refine wpAnyH_take (i := 8) (v := .int .i64 (j : Int)) rfl (by kernel_rfl) (by kernel_rfl) (by kernel_rfl) (fun _ _ _ h => h) (Or.inl ⟨by rfl, ?_⟩) (by assumption) ?_
            · intro w' hSw; go_simp
            (try simp only [Act.put, List.getElem_toArray, List.getElem_cons_zero, List.getElem_cons_succ, List.setIfInBounds_toArray, List.set_cons_zero, List.set_cons_succ])
            refine wpAnyH_take (i := 9) (v := .pointer (some ⟨b3, o3 + j, none⟩)) rfl (by kernel_rfl) (by kernel_rfl) (by kernel_rfl) (fun _ _ _ h => h) (Or.inl ⟨by rfl, ?_⟩) (by assumption) ?_
            · intro w' hSw; go_simp
            (try simp only [Act.put, List.getElem_toArray, List.getElem_cons_zero, List.getElem_cons_succ, List.setIfInBounds_toArray, List.set_cons_zero, List.set_cons_succ])
            refine wpAnyH_take (i := 10) (v := .slice ra3 r3.length rc3) rfl (by kernel_rfl) (by kernel_rfl) (by kernel_rfl) (fun _ _ _ h => h) (Or.inl ⟨by rfl, ?_⟩) (by assumption) ?_
            · intro w' hSw; obtain ⟨g1, g2, g3, g4⟩ := HCW.out _ hSw; go_simp
            (try simp only [Act.put, List.getElem_toArray, List.getElem_cons_zero, List.getElem_cons_succ, List.setIfInBounds_toArray, List.set_cons_zero, List.set_cons_succ])
            refine wpAnyH_ready (rs := [11]) (by kernel_rfl) (by simp) (AllReadyH.cons rfl (fun K hK => ?_) AllReadyH.nil)
            go_simp
            refine (lists_any r1 r3 ra1 ra3 rc1 rc3 v1 (HW.out.1.below hHeld) (HW.out.2.2.1.below hHeld)).mono ?_
            rintro e w8 ⟨rfl, hB8⟩
            rw [hq]
            have HB8 := Lib.hid (mem_then hHeld hB8)
            clear hB8
            refine hK.out _ _ (HB8.out) (fun hHeld => ?_)
            clear hK K
            rename_i hOld
            clear hOld
            (try simp only [Act.put, List.getElem_toArray, List.getElem_cons_zero, List.getElem_cons_succ, List.setIfInBounds_toArray, List.set_cons_zero, List.set_cons_succ])
            refine wpAnyH_take (i := 12) (v := .bool false) rfl (by kernel_rfl) (by kernel_rfl) (by kernel_rfl) (fun _ _ _ h => h) (Or.inl ⟨by rfl, ?_⟩) (by assumption) ?_
            · intro w' hSw; go_simp
            (try simp only [Act.put, List.getElem_toArray, List.getElem_cons_zero, List.getElem_cons_succ, List.setIfInBounds_toArray, List.set_cons_zero, List.set_cons_succ])
            refine wpAnyH_take (i := 13) (v := .bool false) rfl (by kernel_rfl) (by kernel_rfl) (by kernel_rfl) (fun _ _ _ h => h) (Or.inl ⟨by rfl, ?_⟩) (by assumption) ?_
            · intro w' hSw; go_simp
            (try simp only [Act.put, List.getElem_toArray, List.getElem_cons_zero, List.getElem_cons_succ, List.setIfInBounds_toArray, List.set_cons_zero, List.set_cons_succ])
            refine wpAnyH_take (i := 14) (v := .pointer (some ⟨w6.heap.size, 0, none⟩)) rfl (by kernel_rfl) (by kernel_rfl) (by kernel_rfl) (fun _ _ _ h => h) (Or.inl ⟨by rfl, ?_⟩) (by assumption) ?_
            · intro w' hSw; go_simp
            (try simp only [Act.put, List.getElem_toArray, List.getElem_cons_zero, List.getElem_cons_succ, List.setIfInBounds_toArray, List.set_cons_zero, List.set_cons_succ])
            refine wpAnyH_take (i := 15) (v := .pointer (some ⟨w6.heap.size, 0, none⟩)) rfl (by kernel_rfl) (by kernel_rfl) (by kernel_rfl) (fun _ _ _ h => h) (Or.inl ⟨by rfl, ?_⟩) (by assumption) ?_
            · intro w' hSw; go_simp
            (try simp only [Act.put, List.getElem_toArray, List.getElem_cons_zero, List.getElem_cons_succ, List.setIfInBounds_toArray, List.set_cons_zero, List.set_cons_succ])
            refine wpAnyH_take (i := 16) (v := .slice (some ⟨b2, o2, none⟩) S.mem.arrays.length bc) rfl (by kernel_rfl) (by kernel_rfl) (by kernel_rfl) (fun _ _ _ h => h) (Or.inl ⟨by rfl, ?_⟩) (by assumption) ?_
            · intro w' hSw; obtain ⟨g0, g1, g2, g3, g4, g5⟩ := res_cells (HKEEP.out _ (mem_then HBJ.out hSw)).2.1; go_simp
            (try simp only [Act.put, List.getElem_toArray, List.getElem_cons_zero, List.getElem_cons_succ, List.setIfInBounds_toArray, List.set_cons_zero, List.set_cons_succ])
            refine wpAnyH_take (i := 17) (v := .int .i64 (j : Int)) rfl (by kernel_rfl) (by kernel_rfl) (by kernel_rfl) (fun _ _ _ h => h) (Or.inl ⟨by rfl, ?_⟩) (by assumption) ?_
            · intro w' hSw; go_simp
            (try simp only [Act.put, List.getElem_toArray, List.getElem_cons_zero, List.getElem_cons_succ, List.setIfInBounds_toArray, List.set_cons_zero, List.set_cons_succ])
            refine wpAnyH_take (i := 18) (v := .pointer (some ⟨b2, o2 + j, none⟩)) rfl (by kernel_rfl) (by kernel_rfl) (by kernel_rfl) (fun _ _ _ h => h) (Or.inl ⟨by rfl, ?_⟩) (by assumption) ?_
            · intro w' hSw; go_simp
            (try simp only [Act.put, List.getElem_toArray, List.getElem_cons_zero, List.getElem_cons_succ, List.setIfInBounds_toArray, List.set_cons_zero, List.set_cons_succ])
            refine wpAnyH_take (i := 19) (v := .slice ra2 r2.length rc2) rfl (by kernel_rfl) (by kernel_rfl) (by kernel_rfl) (fun _ _ _ h => h) (Or.inl ⟨by rfl, ?_⟩) (by assumption) ?_
            · intro w' hSw; obtain ⟨g1, g2, g3, g4⟩ := HCW.out _ hSw; go_simp
            (try simp only [Act.put, List.getElem_toArray, List.getElem_cons_zero, List.getElem_cons_succ, List.setIfInBounds_toArray, List.set_cons_zero, List.set_cons_succ])
            refine wpAnyH_take (i := 20) (v := .pointer (some ⟨w4.heap.size, 0, none⟩)) rfl (by kernel_rfl) (by kernel_rfl) (by kernel_rfl) (fun _ _ _ h => h) (Or.inl ⟨by rfl, ?_⟩) (by assumption) ?_
            · intro w' hSw; go_simp
            (try simp only [Act.put, List.getElem_toArray, List.getElem_cons_zero, List.getElem_cons_succ, List.setIfInBounds_toArray, List.set_cons_zero, List.set_cons_succ])
            refine wpAnyH_take (i := 21) (v := .slice (some ⟨b4, o4, none⟩) M2.arrays.length cac) rfl (by kernel_rfl) (by kernel_rfl) (by kernel_rfl) (fun _ _ _ h => h) (Or.inl ⟨by rfl, ?_⟩) (by assumption) ?_
            · intro w' hSw; obtain ⟨g0, g1⟩ := mem_two (HKEEP.out _ (mem_then HBJ.out hSw)).2.2.2.1; go_simp
            (try simp only [Act.put, List.getElem_toArray, List.getElem_cons_zero, List.getElem_cons_succ, List.setIfInBounds_toArray, List.set_cons_zero, List.set_cons_succ])
            refine wpAnyH_take (i := 22) (v := .int .i64 (j : Int)) rfl (by kernel_rfl) (by kernel_rfl) (by kernel_rfl) (fun _ _ _ h => h) (Or.inl ⟨by rfl, ?_⟩) (by assumption) ?_
            · intro w' hSw; go_simp
            (try simp only [Act.put, List.getElem_toArray, List.getElem_cons_zero, List.getElem_cons_succ, List.setIfInBounds_toArray, List.set_cons_zero, List.set_cons_succ])
            refine wpAnyH_take (i := 23) (v := .pointer (some ⟨b4, o4 + j, none⟩)) rfl (by kernel_rfl) (by kernel_rfl) (by kernel_rfl) (fun _ _ _ h => h) (Or.inl ⟨by rfl, ?_⟩) (by assumption) ?_
            · intro w' hSw; go_simp
            (try simp only [Act.put, List.getElem_toArray, List.getElem_cons_zero, List.getElem_cons_succ, List.setIfInBounds_toArray, List.set_cons_zero, List.set_cons_succ])
            refine wpAnyH_take (i := 24) (v := .slice ra4 r4.length rc4) rfl (by kernel_rfl) (by kernel_rfl) (by kernel_rfl) (fun _ _ _ h => h) (Or.inl ⟨by rfl, ?_⟩) (by assumption) ?_
            · intro w' hSw; obtain ⟨g1, g2, g3, g4⟩ := HCW.out _ hSw; go_simp
            (try simp only [Act.put, List.getElem_toArray, List.getElem_cons_zero, List.getElem_cons_succ, List.setIfInBounds_toArray, List.set_cons_zero, List.set_cons_succ])
            refine wpAnyH_ready (rs := [25]) (by kernel_rfl) (by simp) (AllReadyH.cons rfl (fun K hK => ?_) AllReadyH.nil)
            go_simp
            refine (lists_any r2 r4 ra2 ra4 rc2 rc4 w8 (HW.out.2.1.below HB8.out) (HW.out.2.2.2.below HB8.out)).mono ?_
            rintro e w9 ⟨rfl, hB9⟩
            rw [hq2]
            have HB9 := Lib.hid (mem_then HB8.out hB9)
            clear hB9
            refine hK.out _ _ (HB9.out) (fun hHeld => ?_)
            clear hK K
            rename_i hOld
            clear hOld
            (try simp only [Act.put, List.getElem_toArray, List.getElem_cons_zero, List.getElem_cons_succ, List.setIfInBounds_toArray, List.set_cons_zero, List.set_cons_succ])
            refine wpAnyH_take (i := 26) (v := .bool false) rfl (by kernel_rfl) (by kernel_rfl) (by kernel_rfl) (fun _ _ _ h => h) (Or.inl ⟨by rfl, ?_⟩) (by assumption) ?_
            · intro w' hSw; go_simp
            (try simp only [Act.put, List.getElem_toArray, List.getElem_cons_zero, List.getElem_cons_succ, List.setIfInBounds_toArray, List.set_cons_zero, List.set_cons_succ])
            refine wpAnyH_take (i := 27) (v := .bool false) rfl (by kernel_rfl) (by kernel_rfl) (by kernel_rfl) (fun _ _ _ h => h) (Or.inl ⟨by rfl, ?_⟩) (by assumption) ?_
            · intro w' hSw; go_simp
            (try simp only [Act.put, List.getElem_toArray, List.getElem_cons_zero, List.getElem_cons_succ, List.setIfInBounds_toArray, List.set_cons_zero, List.set_cons_succ])
            clear hHeld
            refine wpAnyH_done (by kernel_rfl) ?_ _
            go_wp2_with fail
            go_roundw
            case rel => exact ⟨j + 1, by omega, by go_num, mem_then HBJ.out HB9.out⟩
            case measure => simp [intOf]; omega
        · obtain ⟨c1, c2, _, _, k1, k2, _⟩ := HKEEP.out wr HBJ.out
          obtain ⟨x0, x1, x2, x3, x4, x5⟩ := res_cells c1
          obtain ⟨z0, z1, z2, z3, z4, z5⟩ := res_cells c2
          have HLI := Lib.hid (lists_any R.mem.shared S.mem.shared ra ta' rc tc' wr k1.2 k2.2)
          clear c1 c2 k1 k2
          go_wp2_with fail
          clear x0 x1 x2 x3 x4 x5 z0 z1 z2 z3 z4 z5
          refine HLI.out.mono ?_
          rintro e w8 ⟨rfl, hB8⟩
          rw [q7]
          have HB8 := Lib.hid hB8
          clear hB8 HLI
          go_wp2_with fail
          go_ret
          exact ⟨rfl, (HKEEP.out w8 (mem_then HBJ.out HB8.out)).2.2.2.2.2.2.2.2⟩
end Go.Proofs.YtgochgcchkdlmaaDoor
