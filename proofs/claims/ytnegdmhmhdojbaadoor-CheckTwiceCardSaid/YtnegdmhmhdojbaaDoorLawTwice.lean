/-
  The law CheckTwice: a declaration that is repeated is the only fault.
-/
import Derived.Test.YtnegdmhmhdojbaaDoorChkTwiceP
import Derived.Test.YtnegdmhmhdojbaaDoorApps
import Derived.Test.YtnegdmhmhdojbaaDoorSmalls
import Derived.Test.YtnegdmhmhdojbaaDoorChkAwake
namespace Go.Proofs.YtnegdmhmhdojbaaDoor
set_option linter.unusedVariables false
set_option linter.unusedSimpArgs false
open Go.RowKit
set_option maxRecDepth 100000
set_option maxHeartbeats 80000000

theorem list15 {α : Type} {l : List α} (h : l.length = 15) : ∃ a0 a1 a2 a3 a4 a5 a6 a7 a8 a9 a10 a11 a12 a13 a14, l = [a0, a1, a2, a3, a4, a5, a6, a7, a8, a9, a10, a11, a12, a13, a14] := by
  match l, h with
  | [a0, a1, a2, a3, a4, a5, a6, a7, a8, a9, a10, a11, a12, a13, a14], _ => exact ⟨a0, a1, a2, a3, a4, a5, a6, a7, a8, a9, a10, a11, a12, a13, a14, rfl⟩
theorem list8t {α : Type} {l : List α} (h : l.length = 8) : ∃ a b c d e f g i, l = [a, b, c, d, e, f, g, i] := by
  match l, h with
  | [a, b, c, d, e, f, g, i], _ => exact ⟨a, b, c, d, e, f, g, i, rfl⟩
theorem str_info : (Tryd.prog.info? 9).map (fun i => (i.zero, i.size, i.bytes)) = some (some (.string ⟨#[]⟩), 1, 16) := by kernel_rfl
theorem arr_info : (Tryd.prog.info? 52).map (fun i => (i.zero, i.size, i.bytes)) = some (some (.agg #[.string ⟨#[]⟩, .int .i64 0]), 2, 24) := by kernel_rfl
theorem checkTwice_any (p : Prg) (k wh : Int) (w : World) (sa ta : Option Addr) (sc tc : Nat) (hp : PrgAt w p sa ta) (hg : SignsIn w) (hk : 0 ≤ k ∧ k ≤ 255) (hwh : 0 ≤ wh ∧ wh ≤ 255) :
    Calls Tryd.prog 5 #[p.val sa sc ta tc, .int .u8 k, .int .u8 wh] w fun e w' => e = .returned (.bool true) ∧ Below w.heap.size w w' := by
  have hsl := hp.1.1
  have htl := hp.2.1
  obtain ⟨W, hW⟩ : ∃ W : World, w.alloc (prgObj p sa sc ta tc) = W := ⟨_, rfl⟩
  have HBW : Hid (Below w.heap.size w W) := by show Below _ _ _; rw [← hW]; exact mem_alloc _ _
  have HBX : Hid (W.heap[w.heap.size]? = some (prgObj p sa sc ta tc)) := by show _ = _; rw [← hW]; exact mem_new _ _
  have HP := Lib.hid (hp.below HBW.out)
  have HG := Lib.hid (hg.below HBW.out)
  -- what every later world keeps
  have HK : Hid (∀ w', Below W.heap.size W w' → Below w.heap.size w w' ∧ w'.cell? ⟨w.heap.size, 0, none⟩ = some (.slice sa p.shared.length sc) ∧ w'.cell? ⟨w.heap.size, 1, none⟩ = some (.slice ta p.tasks.length tc) ∧ PrgAt w' p sa ta ∧ SignsIn w') := fun w' h => by
    have hb := mem_keep HBX.out h
    exact ⟨HBW.out.trans (h.mono HBW.out.size), mem_cell hb 0, mem_cell hb 1, HP.out.below h, HG.out.below h⟩
  clear hp hg
  go_enter Tryd.func5, Tryd.ntmps5
  go_wp2_with fail
  clear hW
  refine (awake15_any W HG.out).mono ?_
  rintro e w1 ⟨rfl, hB1⟩
  have HB1 := Lib.hid hB1
  obtain ⟨_, y0, y1, hp1, hg1⟩ := HK.out w1 hB1
  have HP1 := Lib.hid hp1
  have HG1 := Lib.hid hg1
  clear hp1 hg1 hB1
  go_wp2_with fail
  clear y0 y1
  refine (clean_any p w1 sa ta sc tc HP1.out HG1.out).mono ?_
  rintro e w2 ⟨rfl, hB2⟩
  have HB2 : Hid (Below W.heap.size W w2) := mem_then HB1.out hB2
  obtain ⟨_, y0, y1, hp2, hg2⟩ := HK.out w2 HB2.out
  have HP2 := Lib.hid hp2
  have HG2 := Lib.hid hg2
  have HAW : Hid (∀ w', Below W.heap.size W w' → Calls Tryd.prog 12 #[] w' fun e w'' => e = .returned (.bool true) ∧ Below w.heap.size w w'') := fun w' h => by
    refine (awake15_any w' (HG.out.below h)).mono ?_
    rintro e w9 ⟨he, hB9⟩
    exact ⟨he, (HK.out w9 (mem_then h hB9)).1⟩
  clear hB2 hp2 hg2
  cases hs : cleanP p with
  | false =>
    go_wp2_with fail
    refine (HAW.out w2 HB2.out).mono ?_
    rintro e w3 ⟨rfl, hB3⟩
    have HB3 := Lib.hid hB3
    clear hB3
    go_wp2_with fail
    go_ret
    exact ⟨rfl, HB3.out⟩
  | true =>
  have HOK : Hid (okP p = true) := by
    unfold cleanP at hs
    exact (Bool.and_eq_true _ _ ▸ hs).2
  clear hs
  by_cases h0 : p.tasks.length = 0
  · have hz : ((p.tasks.length : Int) == 0) = true := by simp [h0]
    clear h0
    go_wp2_with fail
    refine (HAW.out w2 HB2.out).mono ?_
    rintro e w3 ⟨rfl, hB3⟩
    have HB3 := Lib.hid hB3
    clear hB3
    go_wp2_with fail
    go_ret
    exact ⟨rfl, HB3.out⟩
  have hz : ((p.tasks.length : Int) == 0) = false := by rw [beq_eq_false_iff_ne]; omega
  have hlen0 : (p.tasks.length : Int) ≠ 0 := by omega
  obtain ⟨i, hi⟩ : ∃ i : Nat, k % (p.tasks.length : Int) = (i : Int) := ⟨(k % (p.tasks.length : Int)).toNat, by have := Int.emod_nonneg k hlen0; omega⟩
  have hil : i < p.tasks.length := by have := Int.emod_lt_of_pos k (show (0 : Int) < (p.tasks.length : Int) by omega); omega
  have hi2 : (i : Int) < (p.tasks.length : Int) := by omega
  have hi0 : (0 : Int) ≤ (i : Int) := by omega
  have HLE := Lib.hid (prgOk_le (okP_parts HOK.out).1)
  obtain ⟨tb, tf, q, rfl, hc, hin⟩ := HP2.out.2.2 i hil
  obtain ⟨t, ht⟩ : ∃ t, p.tasks.getD i Tsk.none = t := ⟨_, rfl⟩
  rw [ht] at hc hin
  have HT := Lib.hid ht
  have HIN := Lib.hid hin
  obtain ⟨⟨g0, g1, g2, g3, g4, g5, g6, g7⟩, _⟩ := tsk_cells (Below.refl _ _) hc
  obtain ⟨D, hD⟩ : ∃ D : World, w2.alloc (tskObj t q) = D := ⟨_, rfl⟩
  have hBD : Below w2.heap.size w2 D := by rw [← hD]; exact mem_alloc _ _
  have HBD : Hid (Below W.heap.size W D) := mem_then HB2.out hBD
  have HTX : Hid (D.heap[w2.heap.size]? = some (tskObj t q)) := by show _ = _; rw [← hD]; exact mem_new _ _
  have HLT : Hid (w.heap.size < w2.heap.size) := Nat.lt_of_lt_of_le (mem_lt HBX.out) HB2.out.size
  have HINW : Hid (TskIn D t q) := HIN.out.below hBD
  obtain ⟨ti, hti, hz0, hz1, hz2⟩ := info_parts str_info
  have HK2 : Hid (∀ w', Below D.heap.size D w' → Below w.heap.size w w' ∧ w'.cell? ⟨w.heap.size, 0, none⟩ = some (.slice sa p.shared.length sc) ∧ w'.cell? ⟨w.heap.size, 1, none⟩ = some (.slice (some ⟨tb, tf, none⟩) p.tasks.length tc) ∧ PrgAt w' p sa (some ⟨tb, tf, none⟩) ∧ SignsIn w' ∧ w'.heap[w2.heap.size]? = some (tskObj t q) ∧ TskIn w' t q) := fun w' h => by
    obtain ⟨h1, h2, h3, h4, h5⟩ := HK.out w' (mem_then HBD.out h)
    exact ⟨h1, h2, h3, h4, h5, mem_keep HTX.out h, HINW.out.below h⟩
  have x2 : D.cell? ⟨w2.heap.size, 2, none⟩ = some (.slice q.va t.vars.length q.vc) := mem_cell HTX.out 2
  have hvl := HINW.out.vars.1
  have hal := HINW.out.arrays.1
  clear ht hc hin hBD h0
  go_upto_region 6 with fail
  simp only [hi]
  clear g0 g1 g2 g3 g4 g5 g6 g7 x2 y0 y1 hD
  go_cut [50] (fun s w' => s = .bool (decide (0 < t.vars.length ∧ t.vars.length < 12)) ∧ w' = D)
  case first =>
    by_cases hv : 0 < t.vars.length
    · have hv3 : (0 : Int) < (t.vars.length : Int) := by omega
      by_cases hw : t.vars.length < 12
      · have hv4 : (t.vars.length : Int) < 12 := by omega
        have HE : Hid (decide (0 < t.vars.length ∧ t.vars.length < 12) = true) := decide_eq_true ⟨hv, hw⟩
        go_wp2_with fail
        go_meet
        exact ⟨by rw [HE.out], rfl⟩
      · have hv4 : ¬ (t.vars.length : Int) < 12 := by omega
        have HE : Hid (decide (0 < t.vars.length ∧ t.vars.length < 12) = false) := decide_eq_false (fun h => hw h.2)
        go_wp2_with fail
        go_meet
        exact ⟨by rw [HE.out], rfl⟩
    · have hv4 : ¬ (0 : Int) < (t.vars.length : Int) := by omega
      have HE : Hid (decide (0 < t.vars.length ∧ t.vars.length < 12) = false) := decide_eq_false (fun h => hv h.1)
      go_wp2_with fail
      go_meet
      exact ⟨by rw [HE.out], rfl⟩
  obtain ⟨rfl, hwD⟩ := hcut
  rw [hwD]
  clear hwD
  obtain ⟨bv, hbv⟩ : ∃ bv, decide (0 < t.vars.length ∧ t.vars.length < 12) = bv := ⟨_, rfl⟩
  rw [hbv]
  have HBV := Lib.hid hbv
  clear hbv
  go_upto_if 50 with fail
  go_cut [] from 51 to 74 (fun w' => Below D.heap.size D w')
  case first =>
    cases bv with
    | true =>
      have hv := of_decide_eq_true HBV.out
      have hv1 : 0 < t.vars.length := hv.1
      have hv2 : t.vars.length < 12 := hv.2
      have hv3 : (0 : Int) < (t.vars.length : Int) := by omega
      have hv4 : (t.vars.length : Int) < 12 := by omega
      have hv5 : decide ((0 : Int) < (t.vars.length : Int)) = true := by simpa using hv1
      have hv6 : decide ((t.vars.length : Int) < 12) = true := decide_eq_true hv4
      clear hv
      have hy0 : (t.vars.length : Int) ≠ 0 := by omega
      obtain ⟨y, hy⟩ : ∃ y : Nat, wh % (t.vars.length : Int) = (y : Int) := ⟨(wh % (t.vars.length : Int)).toNat, by have := Int.emod_nonneg wh hy0; omega⟩
      have hyl : y < t.vars.length := by have := Int.emod_lt_of_pos wh hv3; omega
      have hyl2 : (y : Int) < (t.vars.length : Int) := by omega
      have hyl0 : (0 : Int) ≤ (y : Int) := by omega
      obtain ⟨_, _, _, _, _, hx, hin2⟩ := HK2.out D (Below.refl _ _)
      obtain ⟨vb, vo, hva, hvc, _⟩ := hin2.vars.2 y hyl
      obtain ⟨v, hv⟩ : ∃ v, t.vars.getD y ⟨#[]⟩ = v := ⟨_, rfl⟩
      rw [hv] at hvc
      have HVM : Hid (v ∈ t.vars) := by show _ ∈ _; rw [← hv]; simp [hyl]
      obtain ⟨qva, qvc, qaa, qac, qka, qkc⟩ := q
      obtain rfl : qva = some ⟨vb, vo, none⟩ := hva
      obtain ⟨q, hq⟩ : ∃ q : TskPlace, q = ⟨some ⟨vb, vo, none⟩, qvc, qaa, qac, qka, qkc⟩ := ⟨_, rfl⟩
      obtain ⟨E, hE⟩ : ∃ E : World, D.alloc (tskObj t ⟨some ⟨vb, vo, none⟩, qvc, qaa, qac, qka, qkc⟩) = E := ⟨_, rfl⟩
      have HCV : Hid (∀ w', Below D.heap.size D w' → w'.cell? ⟨w2.heap.size, 2, none⟩ = some (.slice (some ⟨vb, vo, none⟩) t.vars.length qvc) ∧ w'.cell? ⟨w2.heap.size, 3, none⟩ = some (.slice qaa t.arrays.length qac) ∧ w'.cell? ⟨vb, vo + y, none⟩ = some (.string v)) := fun w' h => by
        obtain ⟨_, _, _, _, _, hx, _⟩ := HK2.out w' h
        exact ⟨mem_cell hx 2, mem_cell hx 3, cell_below h hvc⟩
      have HSV : Hid (Src D (some ⟨vb, vo, none⟩) t.vars.length 1 (t.vars.map Value.string)) := hin2.vars.src
      have HAtw8 : Hid (AppSt D [(D.heap.size, tskObj t ⟨some ⟨vb, vo, none⟩, qvc, qaa, qac, qka, qkc⟩)] 9 1 (.slice none 0 0) 0 [] E) := by
        show AppSt _ _ _ _ _ _ _ _
        rw [← hE]
        exact AppSt.begin (mem_alloc _ _) (fun x hx => by obtain rfl := List.mem_singleton.1 hx; exact mem_new _ _)
      have hb0 := mem_cell hx 0
      have hb1 := mem_cell hx 1
      have hb2 := mem_cell hx 2
      have hb3 := mem_cell hx 3
      have hb4 := mem_cell hx 4
      have hb5 := mem_cell hx 5
      have hb6 := mem_cell hx 6
      have hb7 := mem_cell hx 7
      simp only [List.getElem?_toArray, List.getElem?_cons_zero, List.getElem?_cons_succ] at hb0 hb1 hb2 hb3 hb4 hb5 hb6 hb7
      clear hx hin2 hvc hv
      go_wp2_with fail
      have hwr : IntKind.i64.wrap wh = wh := by rw [IntKind.wrap_i64]; omega
      have hym : wh.tmod (t.vars.length : Int) = (y : Int) := by rw [Int.tmod_eq_emod_of_nonneg hwh.1]; exact hy
      have hvne : t.vars ≠ [] := fun h => by rw [h] at hv1; exact absurd hv1 (Nat.lt_irrefl _)
      clear hE hb0 hb1 hb2 hb3 hb4 hb5 hb6 hb7
      refine cut_runA (RunEnd 52 15 (AppEnd D D.heap.size (t.cells ⟨some ⟨vb, vo, none⟩, qvc, qaa, qac, qka, qkc⟩) 45 9 1 2 (t.vars.length + 1) (t.vars.map Value.string ++ [.string v]))) ?_ ?_
      · skip
        refine wp_region_held_drew (S := fun w' => Below D.heap.size D w') (by kernel_rfl) (HAtw8.out.bel.drew) (fun hHeld => ?_)
        have HA0 : Hid (AppSt D [(D.heap.size, tskObj t ⟨some ⟨vb, vo, none⟩, qvc, qaa, qac, qka, qkc⟩)] 9 1 (.slice none 0 0) 0 [] (World.drew _)) := AppSt.begin hHeld (fun x hx => by have := (HAtw8.out.blk x hx).1; exact this)
        generalize hw0 : World.drew _ = v0 at hHeld HA0 ⊢
        clear hw0
        refine wpAnyH_take (i := 1) (v := .pointer (some ⟨w2.heap.size, 2, none⟩)) rfl (by kernel_rfl) (by kernel_rfl) (by kernel_rfl) (fun _ _ _ h => h) (Or.inl ⟨by rfl, ?_⟩) (by assumption) ?_
        · intro w' hSw; go_simp
        (try simp only [Act.put, List.getElem_toArray, List.getElem_cons_zero, List.getElem_cons_succ, List.setIfInBounds_toArray, List.set_cons_zero, List.set_cons_succ])
        refine wpAnyH_take (i := 2) (v := .slice (some ⟨vb, vo, none⟩) t.vars.length qvc) rfl (by kernel_rfl) (by kernel_rfl) (by kernel_rfl) (fun _ _ _ h => h) (Or.inl ⟨by rfl, ?_⟩) (by assumption) ?_
        · intro w' hSw; obtain ⟨z2, z3, zv⟩ := HCV.out _ hSw; go_simp
        (try simp only [Act.put, List.getElem_toArray, List.getElem_cons_zero, List.getElem_cons_succ, List.setIfInBounds_toArray, List.set_cons_zero, List.set_cons_succ])
        refine wpAnyH_take (i := 4) (v := .pointer (some ⟨w2.heap.size, 2, none⟩)) rfl (by kernel_rfl) (by kernel_rfl) (by kernel_rfl) (fun _ _ _ h => h) (Or.inl ⟨by rfl, ?_⟩) (by assumption) ?_
        · intro w' hSw; go_simp
        (try simp only [Act.put, List.getElem_toArray, List.getElem_cons_zero, List.getElem_cons_succ, List.setIfInBounds_toArray, List.set_cons_zero, List.set_cons_succ])
        refine wpAnyH_take (i := 5) (v := .slice (some ⟨vb, vo, none⟩) t.vars.length qvc) rfl (by kernel_rfl) (by kernel_rfl) (by kernel_rfl) (fun _ _ _ h => h) (Or.inl ⟨by rfl, ?_⟩) (by assumption) ?_
        · intro w' hSw; obtain ⟨z2, z3, zv⟩ := HCV.out _ hSw; go_simp
        (try simp only [Act.put, List.getElem_toArray, List.getElem_cons_zero, List.getElem_cons_succ, List.setIfInBounds_toArray, List.set_cons_zero, List.set_cons_succ])
        refine wpAnyH_take (i := 6) (v := .int .u8 wh) rfl (by kernel_rfl) (by kernel_rfl) (by kernel_rfl) (fun _ _ _ h => h) (Or.inl ⟨by rfl, ?_⟩) (by assumption) ?_
        · intro w' hSw; go_simp
        (try simp only [Act.put, List.getElem_toArray, List.getElem_cons_zero, List.getElem_cons_succ, List.setIfInBounds_toArray, List.set_cons_zero, List.set_cons_succ])
        refine wpAnyH_take (i := 7) (v := .int .i64 wh) rfl (by kernel_rfl) (by kernel_rfl) (by kernel_rfl) (fun _ _ _ h => h) (Or.inl ⟨by rfl, ?_⟩) (by assumption) ?_
        · intro w' hSw; go_simp
        (try simp only [Act.put, List.getElem_toArray, List.getElem_cons_zero, List.getElem_cons_succ, List.setIfInBounds_toArray, List.set_cons_zero, List.set_cons_succ])
        refine wpAnyH_take (i := 8) (v := .int .i64 (t.vars.length : Int)) rfl (by kernel_rfl) (by kernel_rfl) (by kernel_rfl) (fun _ _ _ h => h) (Or.inl ⟨by rfl, ?_⟩) (by assumption) ?_
        · intro w' hSw; go_simp
        (try simp only [Act.put, List.getElem_toArray, List.getElem_cons_zero, List.getElem_cons_succ, List.setIfInBounds_toArray, List.set_cons_zero, List.set_cons_succ])
        refine wpAnyH_take (i := 9) (v := .int .i64 (y : Int)) rfl (by kernel_rfl) (by kernel_rfl) (by kernel_rfl) (fun _ _ _ h => h) (Or.inl ⟨by rfl, ?_⟩) (by assumption) ?_
        · intro w' hSw; go_simp
        (try simp only [Act.put, List.getElem_toArray, List.getElem_cons_zero, List.getElem_cons_succ, List.setIfInBounds_toArray, List.set_cons_zero, List.set_cons_succ])
        refine wpAnyH_take (i := 10) (v := .pointer (some ⟨vb, vo + y, none⟩)) rfl (by kernel_rfl) (by kernel_rfl) (by kernel_rfl) (fun _ _ _ h => h) (Or.inl ⟨by rfl, ?_⟩) (by assumption) ?_
        · intro w' hSw; go_simp
        (try simp only [Act.put, List.getElem_toArray, List.getElem_cons_zero, List.getElem_cons_succ, List.setIfInBounds_toArray, List.set_cons_zero, List.set_cons_succ])
        refine wpAnyH_take (i := 11) (v := .string v) rfl (by kernel_rfl) (by kernel_rfl) (by kernel_rfl) (fun _ _ _ h => h) (Or.inl ⟨by rfl, ?_⟩) (by assumption) ?_
        · intro w' hSw; obtain ⟨z2, z3, zv⟩ := HCV.out _ hSw; go_simp
        (try simp only [Act.put, List.getElem_toArray, List.getElem_cons_zero, List.getElem_cons_succ, List.setIfInBounds_toArray, List.set_cons_zero, List.set_cons_succ])
        refine wpAnyH_ready (rs := [0, 12]) (by kernel_rfl) (by simp) (AllReadyH.cons rfl (fun K hK => ?_) (AllReadyH.cons rfl (fun K hK => ?_) AllReadyH.nil))
        · skip
          go_simp
          have HA1 := Lib.hid HA0.out.start
          refine hK.out _ _ HA1.out.bel (fun hHeld => ?_)
          clear hK K
          rename_i hOld
          clear hOld
          (try simp only [Act.put, List.getElem_toArray, List.getElem_cons_zero, List.getElem_cons_succ, List.setIfInBounds_toArray, List.set_cons_zero, List.set_cons_succ])
          generalize hw : World.alloc v0 _ = v1 at hHeld HA1 ⊢
          clear hw
          refine wpAnyH_ready (rs := [3, 12]) (by kernel_rfl) (by simp) (AllReadyH.cons rfl (fun K hK => ?_) (AllReadyH.cons rfl (fun K hK => ?_) AllReadyH.nil))
          · skip
            refine step_append_src _ rfl (.tmp 52) (.tmp 54) 40 rfl D.heap.size 9 ti _ 1 16 Tryd.underlying40 hti hz0 hz1 hz2 rfl (by decide) (.slice (some ⟨v0.heap.size, 0, none⟩) 0 0) 0 [] (by simp [Act.eval]) HA1.out.own (some ⟨vb, vo, none⟩) t.vars.length qvc (t.vars.map Value.string) (by simp [Act.eval]) (HSV.out.below HA1.out.bel) strs_ones (by unfold maxLen; omega) (by omega) HA1.out.bel.size ?_
            intro r2 v2 hown hgrow hplace
            rw [Nat.zero_add, List.nil_append] at hown
            obtain ⟨ra2, rc2, rfl⟩ := own_val hown
            have HA2 := Lib.hid (HA1.out.grow hown hgrow hplace)
            refine hK.out _ _ HA2.out.bel (fun hHeld => ?_)
            clear hK K hown hgrow hplace
            rename_i hOld
            clear hOld
            (try simp only [Act.put, List.getElem_toArray, List.getElem_cons_zero, List.getElem_cons_succ, List.setIfInBounds_toArray, List.set_cons_zero, List.set_cons_succ])
            refine wpAnyH_ready (rs := [12]) (by kernel_rfl) (by simp) (AllReadyH.cons rfl (fun K hK => ?_) AllReadyH.nil)
            go_simp
            have HA3 := Lib.hid (HA2.out.alloc (.cells #[.string v] 9))
            refine hK.out _ _ HA3.out.bel (fun hHeld => ?_)
            clear hK K
            rename_i hOld
            clear hOld
            (try simp only [Act.put, List.getElem_toArray, List.getElem_cons_zero, List.getElem_cons_succ, List.setIfInBounds_toArray, List.set_cons_zero, List.set_cons_succ])
            generalize hw : World.alloc v2 _ = v3 at hHeld HA3 ⊢
            clear hw
            refine wpAnyH_ready (rs := [13]) (by kernel_rfl) (by simp) (AllReadyH.cons rfl (fun K hK => ?_) AllReadyH.nil)
            refine step_append_src _ rfl (.tmp 55) (.tmp 64) 40 rfl D.heap.size 9 ti _ 1 16 Tryd.underlying40 hti hz0 hz1 hz2 rfl (by decide) (.slice ra2 t.vars.length rc2) t.vars.length ((t.vars.map Value.string)) (by simp [Act.eval]) HA3.out.own (some ⟨v2.heap.size, 0, none⟩) 1 1 [.string v] (by simp [Act.eval]) (one_src (cs := [.string v]) (n := 1) (HA3.out.blk (v2.heap.size, .cells #[.string v] 9) (by simp)).1 rfl) (by simp [Value.oneCell']) (by unfold maxLen; omega) (by omega) HA3.out.bel.size ?_
            intro r4 v4 hown hgrow hplace
            obtain ⟨ra4, rc4, rfl⟩ := own_val hown
            have HA4 := Lib.hid (HA3.out.grow hown hgrow hplace)
            refine hK.out _ _ HA4.out.bel (fun hHeld => ?_)
            clear hK K hown hgrow hplace
            rename_i hOld
            clear hOld
            (try simp only [Act.put, List.getElem_toArray, List.getElem_cons_zero, List.getElem_cons_succ, List.setIfInBounds_toArray, List.set_cons_zero, List.set_cons_succ])
            refine wpAnyH_take (i := 14) (v := .pointer (some ⟨D.heap.size, 2, none⟩)) rfl (by kernel_rfl) (by kernel_rfl) (by kernel_rfl) (fun _ _ _ h => h) (Or.inl ⟨by rfl, ?_⟩) (by assumption) ?_
            · intro w' hSw; go_simp
            (try simp only [Act.put, List.getElem_toArray, List.getElem_cons_zero, List.getElem_cons_succ, List.setIfInBounds_toArray, List.set_cons_zero, List.set_cons_succ])
            have b0 := (HA4.out.blk (D.heap.size, tskObj t ⟨some ⟨vb, vo, none⟩, qvc, qaa, qac, qka, qkc⟩) (by simp)).1
            have f0 := mem_free b0 2
            have f1 := mem_cell b0 2
            have f1 : v4.cell? ⟨D.heap.size, 2, none⟩ = some (.slice (some ⟨vb, vo, none⟩) t.vars.length qvc) := f1.trans rfl
            have HEND := Lib.hid (AppSt.put (k := 2) HA4.out (ub := D.heap.size) (arr := (t.cells ⟨some ⟨vb, vo, none⟩, qvc, qaa, qac, qka, qkc⟩)) (T := 45) (show (D.heap.size, tskObj t ⟨some ⟨vb, vo, none⟩, qvc, qaa, qac, qka, qkc⟩) ∈ _ by simp) (by exact Nat.le_refl _))
            clear b0
            refine wpAnyH_ready (rs := [15]) (by kernel_rfl) (by simp) (AllReadyH.cons rfl (fun K hK => ?_) AllReadyH.nil)
            go_simp
            clear f0 f1
            generalize World.setCell _ _ _ = wS at HEND ⊢
            refine hK.out _ _ ((let ⟨_, _, _, _, h⟩ := HEND.out; h)) (fun hHeld => ?_)
            clear hK K
            rename_i hOld
            clear hOld
            (try simp only [Act.put, List.getElem_toArray, List.getElem_cons_zero, List.getElem_cons_succ, List.setIfInBounds_toArray, List.set_cons_zero, List.set_cons_succ])
            refine wpAnyH_done (by kernel_rfl) ?_ _
            exact ⟨[_, _, _, _, _, _, _, _, _, _, _, _, _, _, _], rfl, (by simp only [putAll, List.setIfInBounds_toArray, List.set_cons_zero, List.set_cons_succ]; rfl), HEND.out⟩
          · skip
            go_simp
            have HA2 := Lib.hid (HA1.out.alloc (.cells #[.string v] 9))
            refine hK.out _ _ HA2.out.bel (fun hHeld => ?_)
            clear hK K
            rename_i hOld
            clear hOld
            (try simp only [Act.put, List.getElem_toArray, List.getElem_cons_zero, List.getElem_cons_succ, List.setIfInBounds_toArray, List.set_cons_zero, List.set_cons_succ])
            generalize hw : World.alloc v1 _ = v2 at hHeld HA2 ⊢
            clear hw
            refine wpAnyH_ready (rs := [3]) (by kernel_rfl) (by simp) (AllReadyH.cons rfl (fun K hK => ?_) AllReadyH.nil)
            refine step_append_src _ rfl (.tmp 52) (.tmp 54) 40 rfl D.heap.size 9 ti _ 1 16 Tryd.underlying40 hti hz0 hz1 hz2 rfl (by decide) (.slice (some ⟨v0.heap.size, 0, none⟩) 0 0) 0 [] (by simp [Act.eval]) HA2.out.own (some ⟨vb, vo, none⟩) t.vars.length qvc (t.vars.map Value.string) (by simp [Act.eval]) (HSV.out.below HA2.out.bel) strs_ones (by unfold maxLen; omega) (by omega) HA2.out.bel.size ?_
            intro r3 v3 hown hgrow hplace
            rw [Nat.zero_add, List.nil_append] at hown
            obtain ⟨ra3, rc3, rfl⟩ := own_val hown
            have HA3 := Lib.hid (HA2.out.grow hown hgrow hplace)
            refine hK.out _ _ HA3.out.bel (fun hHeld => ?_)
            clear hK K hown hgrow hplace
            rename_i hOld
            clear hOld
            (try simp only [Act.put, List.getElem_toArray, List.getElem_cons_zero, List.getElem_cons_succ, List.setIfInBounds_toArray, List.set_cons_zero, List.set_cons_succ])
            refine wpAnyH_ready (rs := [13]) (by kernel_rfl) (by simp) (AllReadyH.cons rfl (fun K hK => ?_) AllReadyH.nil)
            refine step_append_src _ rfl (.tmp 55) (.tmp 64) 40 rfl D.heap.size 9 ti _ 1 16 Tryd.underlying40 hti hz0 hz1 hz2 rfl (by decide) (.slice ra3 t.vars.length rc3) t.vars.length ((t.vars.map Value.string)) (by simp [Act.eval]) HA3.out.own (some ⟨v1.heap.size, 0, none⟩) 1 1 [.string v] (by simp [Act.eval]) (one_src (cs := [.string v]) (n := 1) (HA3.out.blk (v1.heap.size, .cells #[.string v] 9) (by simp)).1 rfl) (by simp [Value.oneCell']) (by unfold maxLen; omega) (by omega) HA3.out.bel.size ?_
            intro r4 v4 hown hgrow hplace
            obtain ⟨ra4, rc4, rfl⟩ := own_val hown
            have HA4 := Lib.hid (HA3.out.grow hown hgrow hplace)
            refine hK.out _ _ HA4.out.bel (fun hHeld => ?_)
            clear hK K hown hgrow hplace
            rename_i hOld
            clear hOld
            (try simp only [Act.put, List.getElem_toArray, List.getElem_cons_zero, List.getElem_cons_succ, List.setIfInBounds_toArray, List.set_cons_zero, List.set_cons_succ])
            refine wpAnyH_take (i := 14) (v := .pointer (some ⟨D.heap.size, 2, none⟩)) rfl (by kernel_rfl) (by kernel_rfl) (by kernel_rfl) (fun _ _ _ h => h) (Or.inl ⟨by rfl, ?_⟩) (by assumption) ?_
            · intro w' hSw; go_simp
            (try simp only [Act.put, List.getElem_toArray, List.getElem_cons_zero, List.getElem_cons_succ, List.setIfInBounds_toArray, List.set_cons_zero, List.set_cons_succ])
            have b0 := (HA4.out.blk (D.heap.size, tskObj t ⟨some ⟨vb, vo, none⟩, qvc, qaa, qac, qka, qkc⟩) (by simp)).1
            have f0 := mem_free b0 2
            have f1 := mem_cell b0 2
            have f1 : v4.cell? ⟨D.heap.size, 2, none⟩ = some (.slice (some ⟨vb, vo, none⟩) t.vars.length qvc) := f1.trans rfl
            have HEND := Lib.hid (AppSt.put (k := 2) HA4.out (ub := D.heap.size) (arr := (t.cells ⟨some ⟨vb, vo, none⟩, qvc, qaa, qac, qka, qkc⟩)) (T := 45) (show (D.heap.size, tskObj t ⟨some ⟨vb, vo, none⟩, qvc, qaa, qac, qka, qkc⟩) ∈ _ by simp) (by exact Nat.le_refl _))
            clear b0
            refine wpAnyH_ready (rs := [15]) (by kernel_rfl) (by simp) (AllReadyH.cons rfl (fun K hK => ?_) AllReadyH.nil)
            go_simp
            clear f0 f1
            generalize World.setCell _ _ _ = wS at HEND ⊢
            refine hK.out _ _ ((let ⟨_, _, _, _, h⟩ := HEND.out; h)) (fun hHeld => ?_)
            clear hK K
            rename_i hOld
            clear hOld
            (try simp only [Act.put, List.getElem_toArray, List.getElem_cons_zero, List.getElem_cons_succ, List.setIfInBounds_toArray, List.set_cons_zero, List.set_cons_succ])
            refine wpAnyH_done (by kernel_rfl) ?_ _
            exact ⟨[_, _, _, _, _, _, _, _, _, _, _, _, _, _, _], rfl, (by simp only [putAll, List.setIfInBounds_toArray, List.set_cons_zero, List.set_cons_succ]; rfl), HEND.out⟩
        · skip
          go_simp
          have HA1 := Lib.hid (HA0.out.alloc (.cells #[.string v] 9))
          refine hK.out _ _ HA1.out.bel (fun hHeld => ?_)
          clear hK K
          rename_i hOld
          clear hOld
          (try simp only [Act.put, List.getElem_toArray, List.getElem_cons_zero, List.getElem_cons_succ, List.setIfInBounds_toArray, List.set_cons_zero, List.set_cons_succ])
          generalize hw : World.alloc v0 _ = v1 at hHeld HA1 ⊢
          clear hw
          refine wpAnyH_ready (rs := [0]) (by kernel_rfl) (by simp) (AllReadyH.cons rfl (fun K hK => ?_) AllReadyH.nil)
          go_simp
          have HA2 := Lib.hid HA1.out.start
          refine hK.out _ _ HA2.out.bel (fun hHeld => ?_)
          clear hK K
          rename_i hOld
          clear hOld
          (try simp only [Act.put, List.getElem_toArray, List.getElem_cons_zero, List.getElem_cons_succ, List.setIfInBounds_toArray, List.set_cons_zero, List.set_cons_succ])
          generalize hw : World.alloc v1 _ = v2 at hHeld HA2 ⊢
          clear hw
          refine wpAnyH_ready (rs := [3]) (by kernel_rfl) (by simp) (AllReadyH.cons rfl (fun K hK => ?_) AllReadyH.nil)
          refine step_append_src _ rfl (.tmp 52) (.tmp 54) 40 rfl D.heap.size 9 ti _ 1 16 Tryd.underlying40 hti hz0 hz1 hz2 rfl (by decide) (.slice (some ⟨v1.heap.size, 0, none⟩) 0 0) 0 [] (by simp [Act.eval]) HA2.out.own (some ⟨vb, vo, none⟩) t.vars.length qvc (t.vars.map Value.string) (by simp [Act.eval]) (HSV.out.below HA2.out.bel) strs_ones (by unfold maxLen; omega) (by omega) HA2.out.bel.size ?_
          intro r3 v3 hown hgrow hplace
          rw [Nat.zero_add, List.nil_append] at hown
          obtain ⟨ra3, rc3, rfl⟩ := own_val hown
          have HA3 := Lib.hid (HA2.out.grow hown hgrow hplace)
          refine hK.out _ _ HA3.out.bel (fun hHeld => ?_)
          clear hK K hown hgrow hplace
          rename_i hOld
          clear hOld
          (try simp only [Act.put, List.getElem_toArray, List.getElem_cons_zero, List.getElem_cons_succ, List.setIfInBounds_toArray, List.set_cons_zero, List.set_cons_succ])
          refine wpAnyH_ready (rs := [13]) (by kernel_rfl) (by simp) (AllReadyH.cons rfl (fun K hK => ?_) AllReadyH.nil)
          refine step_append_src _ rfl (.tmp 55) (.tmp 64) 40 rfl D.heap.size 9 ti _ 1 16 Tryd.underlying40 hti hz0 hz1 hz2 rfl (by decide) (.slice ra3 t.vars.length rc3) t.vars.length ((t.vars.map Value.string)) (by simp [Act.eval]) HA3.out.own (some ⟨v0.heap.size, 0, none⟩) 1 1 [.string v] (by simp [Act.eval]) (one_src (cs := [.string v]) (n := 1) (HA3.out.blk (v0.heap.size, .cells #[.string v] 9) (by simp)).1 rfl) (by simp [Value.oneCell']) (by unfold maxLen; omega) (by omega) HA3.out.bel.size ?_
          intro r4 v4 hown hgrow hplace
          obtain ⟨ra4, rc4, rfl⟩ := own_val hown
          have HA4 := Lib.hid (HA3.out.grow hown hgrow hplace)
          refine hK.out _ _ HA4.out.bel (fun hHeld => ?_)
          clear hK K hown hgrow hplace
          rename_i hOld
          clear hOld
          (try simp only [Act.put, List.getElem_toArray, List.getElem_cons_zero, List.getElem_cons_succ, List.setIfInBounds_toArray, List.set_cons_zero, List.set_cons_succ])
          refine wpAnyH_take (i := 14) (v := .pointer (some ⟨D.heap.size, 2, none⟩)) rfl (by kernel_rfl) (by kernel_rfl) (by kernel_rfl) (fun _ _ _ h => h) (Or.inl ⟨by rfl, ?_⟩) (by assumption) ?_
          · intro w' hSw; go_simp
          (try simp only [Act.put, List.getElem_toArray, List.getElem_cons_zero, List.getElem_cons_succ, List.setIfInBounds_toArray, List.set_cons_zero, List.set_cons_succ])
          have b0 := (HA4.out.blk (D.heap.size, tskObj t ⟨some ⟨vb, vo, none⟩, qvc, qaa, qac, qka, qkc⟩) (by simp)).1
          have f0 := mem_free b0 2
          have f1 := mem_cell b0 2
          have f1 : v4.cell? ⟨D.heap.size, 2, none⟩ = some (.slice (some ⟨vb, vo, none⟩) t.vars.length qvc) := f1.trans rfl
          have HEND := Lib.hid (AppSt.put (k := 2) HA4.out (ub := D.heap.size) (arr := (t.cells ⟨some ⟨vb, vo, none⟩, qvc, qaa, qac, qka, qkc⟩)) (T := 45) (show (D.heap.size, tskObj t ⟨some ⟨vb, vo, none⟩, qvc, qaa, qac, qka, qkc⟩) ∈ _ by simp) (by exact Nat.le_refl _))
          clear b0
          refine wpAnyH_ready (rs := [15]) (by kernel_rfl) (by simp) (AllReadyH.cons rfl (fun K hK => ?_) AllReadyH.nil)
          go_simp
          clear f0 f1
          generalize World.setCell _ _ _ = wS at HEND ⊢
          refine hK.out _ _ ((let ⟨_, _, _, _, h⟩ := HEND.out; h)) (fun hHeld => ?_)
          clear hK K
          rename_i hOld
          clear hOld
          (try simp only [Act.put, List.getElem_toArray, List.getElem_cons_zero, List.getElem_cons_succ, List.setIfInBounds_toArray, List.set_cons_zero, List.set_cons_succ])
          refine wpAnyH_done (by kernel_rfl) ?_ _
          exact ⟨[_, _, _, _, _, _, _, _, _, _, _, _, _, _, _], rfl, (by simp only [putAll, List.setIfInBounds_toArray, List.set_cons_zero, List.set_cons_succ]; rfl), HEND.out⟩
      · rintro a' w3 ⟨l, hl, rfl, A, c, hbx, hown, hBe⟩
        obtain ⟨l0, l1, l2, l3, l4, l5, l6, l7, l8, l9, l10, l11, l12, l13, l14, rfl⟩ := list15 hl
        simp only [putAll, List.setIfInBounds_toArray, List.set_cons_zero, List.set_cons_succ]
        have HOWN : Hid (StrsAt w3 A (t.vars ++ [v])) := strs_own (c := c) (by rw [List.length_append, List.map_append]; exact hown) (fun s hs => by
          rcases List.mem_append.1 hs with hs | hs
          · exact HINW.out.vars.sizes s hs
          · obtain rfl := List.mem_singleton.1 hs
            exact HINW.out.vars.sizes _ HVM.out)
        have HBE := Lib.hid hBe
        have HBX3 : Hid (w3.heap[D.heap.size]? = some (tskObj (varsT t v) ⟨A, c, qaa, qac, qka, qkc⟩)) := by
          show _ = some (Obj.cells #[.string t.name, .int .i64 t.period, .slice A (t.vars ++ [v]).length c, .slice qaa t.arrays.length qac, .int .u8 t.body.kind, .int .i64 t.body.num, .string t.body.name, .slice qka t.body.len qkc] 45)
          rw [List.length_append]
          exact hbx
        clear hl hbx hown hBe
        have b0 := mem_cell HBX3.out 0
        have b1 := mem_cell HBX3.out 1
        have b2 := mem_cell HBX3.out 2
        have b3 := mem_cell HBX3.out 3
        have b4 := mem_cell HBX3.out 4
        have b5 := mem_cell HBX3.out 5
        have b6 := mem_cell HBX3.out 6
        have b7 := mem_cell HBX3.out 7
        simp only [Tsk.cells, List.getElem?_toArray, List.getElem?_cons_zero, List.getElem?_cons_succ] at b0 b1 b2 b3 b4 b5 b6 b7
        obtain ⟨_, y0, y1, hp3, hg3, hx3, hin3⟩ := HK2.out w3 HBE.out
        have HP3 := Lib.hid hp3
        have HG3 := Lib.hid hg3
        have HIN3 := Lib.hid hin3
        clear hp3 hg3 hx3 hin3
        go_wp2_with fail
        refine (swap_any p i (varsT t v) ⟨A, c, qaa, qac, qka, qkc⟩ w3 sa (some ⟨tb, tf, none⟩) sc tc HP3.out ⟨HIN3.out.name, HIN3.out.period, HOWN.out, HIN3.out.arrays, HIN3.out.body⟩ hil (by have := HLE.out.2.1; omega)).mono ?_
        rintro e w4 ⟨ta', tc', rfl, hp4, hB4⟩
        have HB4 : Hid (Below D.heap.size D w4) := mem_then HBE.out hB4
        have HP4 := Lib.hid hp4
        have HG4 := Lib.hid (HK2.out w4 HB4.out).2.2.2.2.1
        clear hp4 hB4 y0 y1 b0 b1 b2 b3 b4 b5 b6 b7
        obtain ⟨E2, hE2⟩ : ∃ E2 : World, w4.alloc (.cells #[.slice none 0 0] 33) = E2 := ⟨_, rfl⟩
        have hBE2 : Below w4.heap.size w4 E2 := by rw [← hE2]; exact mem_alloc _ _
        have HPS : Hid (PathsAt E2 (some ⟨w4.heap.size, 0, none⟩) [[]]) := ⟨by show 1 ≤ _; omega, fun n hn => by
          have hn : n < 1 := hn
          obtain rfl : n = 0 := by omega
          exact ⟨w4.heap.size, 0, none, 0, rfl, by rw [← hE2]; exact mem_cell (mem_new _ _) 0, IRow.nil⟩⟩
        have HP5 := Lib.hid (HP4.out.below hBE2)
        have HG5 := Lib.hid (HG4.out.below hBE2)
        have HB5 : Hid (Below D.heap.size D E2) := mem_then HB4.out hBE2
        have HO : Hid (onlyP (swapP p i (varsT t v)) (i : Int) 8 [[]] = true) := by
          have h := twice_vars (v := v) HOK.out hil (by rw [HT.out]; exact HVM.out) (by rw [HT.out]; exact hv2)
          rwa [HT.out] at h
        clear hBE2
        go_wp2_with fail
        clear hE2
        have h9 := only_any (swapP p i (varsT t v)) (i : Int) 8 [[]] E2 sa ta' (some ⟨w4.heap.size, 0, none⟩) sc tc' 1 HP5.out HG5.out HPS.out
        refine h9.mono ?_
        clear h9
        rintro e w6 ⟨he, hB6⟩
        rw [HO.out] at he
        subst he
        have HB6 : Hid (Below D.heap.size D w6) := mem_then HB5.out hB6
        clear hB6
        go_wp2_with fail
        go_meet
        exact HB6.out
    | false =>
      go_wp2_with fail
      go_meet
      exact Below.refl _ _
  obtain ⟨DA, hDA⟩ : ∃ DA : World, DA = wc := ⟨_, rfl⟩
  rw [← hDA] at hcut ⊢
  clear hDA
  have HBcDA := Lib.hid hcut
  have HKA : Hid (∀ w', Below DA.heap.size DA w' → Below w.heap.size w w' ∧ w'.cell? ⟨w.heap.size, 0, none⟩ = some (.slice sa p.shared.length sc) ∧ w'.cell? ⟨w.heap.size, 1, none⟩ = some (.slice (some ⟨tb, tf, none⟩) p.tasks.length tc) ∧ PrgAt w' p sa (some ⟨tb, tf, none⟩) ∧ SignsIn w' ∧ w'.heap[w2.heap.size]? = some (tskObj t q) ∧ TskIn w' t q) := fun w' h => HK2.out w' (mem_then HBcDA.out h)
  clear hcut
  obtain ⟨tj, htj, jz0, jz1, jz2⟩ := info_parts arr_info
  have e3 : DA.cell? ⟨w2.heap.size, 3, none⟩ = some (.slice q.aa t.arrays.length q.ac) := mem_cell (HKA.out DA (Below.refl _ _)).2.2.2.2.2.1 3
  go_upto_region 12 with fail
  clear e3
  go_cut [83] (fun s w' => s = .bool (decide (0 < t.arrays.length ∧ t.arrays.length < 4)) ∧ w' = DA)
  case first =>
    by_cases hv : 0 < t.arrays.length
    · have hv3 : (0 : Int) < (t.arrays.length : Int) := by omega
      by_cases hw : t.arrays.length < 4
      · have hv4 : (t.arrays.length : Int) < 4 := by omega
        have HE : Hid (decide (0 < t.arrays.length ∧ t.arrays.length < 4) = true) := decide_eq_true ⟨hv, hw⟩
        go_wp2_with fail
        go_meet
        exact ⟨by rw [HE.out], rfl⟩
      · have hv4 : ¬ (t.arrays.length : Int) < 4 := by omega
        have HE : Hid (decide (0 < t.arrays.length ∧ t.arrays.length < 4) = false) := decide_eq_false (fun h => hw h.2)
        go_wp2_with fail
        go_meet
        exact ⟨by rw [HE.out], rfl⟩
    · have hv4 : ¬ (0 : Int) < (t.arrays.length : Int) := by omega
      have HE : Hid (decide (0 < t.arrays.length ∧ t.arrays.length < 4) = false) := decide_eq_false (fun h => hv h.1)
      go_wp2_with fail
      go_meet
      exact ⟨by rw [HE.out], rfl⟩
  obtain ⟨rfl, hwD⟩ := hcut
  rw [hwD]
  clear hwD
  obtain ⟨ba, hba⟩ : ∃ ba, decide (0 < t.arrays.length ∧ t.arrays.length < 4) = ba := ⟨_, rfl⟩
  rw [hba]
  have HBA := Lib.hid hba
  clear hba
  go_upto_if 83 with fail
  go_cut [] from 84 to 107 (fun w' => Below DA.heap.size DA w')
  case first =>
    cases ba with
    | true =>
      have hv := of_decide_eq_true HBA.out
      have hv1 : 0 < t.arrays.length := hv.1
      have hv2 : t.arrays.length < 4 := hv.2
      have hv3 : (0 : Int) < (t.arrays.length : Int) := by omega
      have hv4 : (t.arrays.length : Int) < 4 := by omega
      have hv5 : decide ((0 : Int) < (t.arrays.length : Int)) = true := by simpa using hv1
      have hv6 : decide ((t.arrays.length : Int) < 4) = true := decide_eq_true hv4
      clear hv
      have hy0 : (t.arrays.length : Int) ≠ 0 := by omega
      obtain ⟨y, hy⟩ : ∃ y : Nat, wh % (t.arrays.length : Int) = (y : Int) := ⟨(wh % (t.arrays.length : Int)).toNat, by have := Int.emod_nonneg wh hy0; omega⟩
      have hyl : y < t.arrays.length := by have := Int.emod_lt_of_pos wh hv3; omega
      have hyl2 : (y : Int) < (t.arrays.length : Int) := by omega
      have hyl0 : (0 : Int) ≤ (y : Int) := by omega
      obtain ⟨_, _, _, _, _, hx, hin2⟩ := HKA.out DA (Below.refl _ _)
      obtain ⟨ab, ao, haa, hvc, hvc1, _⟩ := hin2.arrays.2 y hyl
      obtain ⟨v, hv⟩ : ∃ v, t.arrays.getD y Arr.none = v := ⟨_, rfl⟩
      rw [hv] at hvc hvc1
      have HVM : Hid (v ∈ t.arrays) := by show _ ∈ _; rw [← hv]; simp [hyl]
      obtain ⟨qva, qvc, qaa, qac, qka, qkc⟩ := q
      obtain rfl : qaa = some ⟨ab, ao, none⟩ := haa
      obtain ⟨q, hq⟩ : ∃ q : TskPlace, q = ⟨qva, qvc, some ⟨ab, ao, none⟩, qac, qka, qkc⟩ := ⟨_, rfl⟩
      obtain ⟨E, hE⟩ : ∃ E : World, DA.alloc (tskObj t ⟨qva, qvc, some ⟨ab, ao, none⟩, qac, qka, qkc⟩) = E := ⟨_, rfl⟩
      have HCV : Hid (∀ w', Below DA.heap.size DA w' → w'.cell? ⟨w2.heap.size, 3, none⟩ = some (.slice (some ⟨ab, ao, none⟩) t.arrays.length qac) ∧ w'.cell? ⟨ab, ao + y * 2, none⟩ = some (.string v.name) ∧ w'.cell? ⟨ab, ao + y * 2 + 1, none⟩ = some (.int .i64 v.len)) := fun w' h => by
        obtain ⟨_, _, _, _, _, hx, _⟩ := HKA.out w' h
        exact ⟨mem_cell hx 3, cell_below h hvc, cell_below h hvc1⟩
      have HSV : Hid (Src DA (some ⟨ab, ao, none⟩) t.arrays.length 2 (t.arrays.flatMap Arr.cells)) := hin2.arrays.src
      have HAtw14 : Hid (AppSt DA [(DA.heap.size, tskObj t ⟨qva, qvc, some ⟨ab, ao, none⟩, qac, qka, qkc⟩)] 52 2 (.slice none 0 0) 0 [] E) := by
        show AppSt _ _ _ _ _ _ _ _
        rw [← hE]
        exact AppSt.begin (mem_alloc _ _) (fun x hx => by obtain rfl := List.mem_singleton.1 hx; exact mem_new _ _)
      have hb0 := mem_cell hx 0
      have hb1 := mem_cell hx 1
      have hb2 := mem_cell hx 2
      have hb3 := mem_cell hx 3
      have hb4 := mem_cell hx 4
      have hb5 := mem_cell hx 5
      have hb6 := mem_cell hx 6
      have hb7 := mem_cell hx 7
      simp only [List.getElem?_toArray, List.getElem?_cons_zero, List.getElem?_cons_succ] at hb0 hb1 hb2 hb3 hb4 hb5 hb6 hb7
      clear hx hin2 hvc hvc1 hv
      go_wp2_with fail
      have hwr : IntKind.i64.wrap wh = wh := by rw [IntKind.wrap_i64]; omega
      have hym : wh.tmod (t.arrays.length : Int) = (y : Int) := by rw [Int.tmod_eq_emod_of_nonneg hwh.1]; exact hy
      have hvne : t.arrays ≠ [] := fun h => by rw [h] at hv1; exact absurd hv1 (Nat.lt_irrefl _)
      clear hE hb0 hb1 hb2 hb3 hb4 hb5 hb6 hb7
      refine cut_runA (RunEnd 85 15 (AppEnd DA DA.heap.size (t.cells ⟨qva, qvc, some ⟨ab, ao, none⟩, qac, qka, qkc⟩) 45 52 2 3 (t.arrays.length + 1) (t.arrays.flatMap Arr.cells ++ [.string v.name, .int .i64 v.len]))) ?_ ?_
      · skip
        refine wp_region_held_drew (S := fun w' => Below DA.heap.size DA w') (by kernel_rfl) (HAtw14.out.bel.drew) (fun hHeld => ?_)
        have HA0 : Hid (AppSt DA [(DA.heap.size, tskObj t ⟨qva, qvc, some ⟨ab, ao, none⟩, qac, qka, qkc⟩)] 52 2 (.slice none 0 0) 0 [] (World.drew _)) := AppSt.begin hHeld (fun x hx => by have := (HAtw14.out.blk x hx).1; exact this)
        generalize hw0 : World.drew _ = v0 at hHeld HA0 ⊢
        clear hw0
        refine wpAnyH_take (i := 1) (v := .pointer (some ⟨w2.heap.size, 3, none⟩)) rfl (by kernel_rfl) (by kernel_rfl) (by kernel_rfl) (fun _ _ _ h => h) (Or.inl ⟨by rfl, ?_⟩) (by assumption) ?_
        · intro w' hSw; go_simp
        (try simp only [Act.put, List.getElem_toArray, List.getElem_cons_zero, List.getElem_cons_succ, List.setIfInBounds_toArray, List.set_cons_zero, List.set_cons_succ])
        refine wpAnyH_take (i := 2) (v := .slice (some ⟨ab, ao, none⟩) t.arrays.length qac) rfl (by kernel_rfl) (by kernel_rfl) (by kernel_rfl) (fun _ _ _ h => h) (Or.inl ⟨by rfl, ?_⟩) (by assumption) ?_
        · intro w' hSw; obtain ⟨z3, zv, zl⟩ := HCV.out _ hSw; go_simp
        (try simp only [Act.put, List.getElem_toArray, List.getElem_cons_zero, List.getElem_cons_succ, List.setIfInBounds_toArray, List.set_cons_zero, List.set_cons_succ])
        refine wpAnyH_take (i := 4) (v := .pointer (some ⟨w2.heap.size, 3, none⟩)) rfl (by kernel_rfl) (by kernel_rfl) (by kernel_rfl) (fun _ _ _ h => h) (Or.inl ⟨by rfl, ?_⟩) (by assumption) ?_
        · intro w' hSw; go_simp
        (try simp only [Act.put, List.getElem_toArray, List.getElem_cons_zero, List.getElem_cons_succ, List.setIfInBounds_toArray, List.set_cons_zero, List.set_cons_succ])
        refine wpAnyH_take (i := 5) (v := .slice (some ⟨ab, ao, none⟩) t.arrays.length qac) rfl (by kernel_rfl) (by kernel_rfl) (by kernel_rfl) (fun _ _ _ h => h) (Or.inl ⟨by rfl, ?_⟩) (by assumption) ?_
        · intro w' hSw; obtain ⟨z3, zv, zl⟩ := HCV.out _ hSw; go_simp
        (try simp only [Act.put, List.getElem_toArray, List.getElem_cons_zero, List.getElem_cons_succ, List.setIfInBounds_toArray, List.set_cons_zero, List.set_cons_succ])
        refine wpAnyH_take (i := 6) (v := .int .u8 wh) rfl (by kernel_rfl) (by kernel_rfl) (by kernel_rfl) (fun _ _ _ h => h) (Or.inl ⟨by rfl, ?_⟩) (by assumption) ?_
        · intro w' hSw; go_simp
        (try simp only [Act.put, List.getElem_toArray, List.getElem_cons_zero, List.getElem_cons_succ, List.setIfInBounds_toArray, List.set_cons_zero, List.set_cons_succ])
        refine wpAnyH_take (i := 7) (v := .int .i64 wh) rfl (by kernel_rfl) (by kernel_rfl) (by kernel_rfl) (fun _ _ _ h => h) (Or.inl ⟨by rfl, ?_⟩) (by assumption) ?_
        · intro w' hSw; go_simp
        (try simp only [Act.put, List.getElem_toArray, List.getElem_cons_zero, List.getElem_cons_succ, List.setIfInBounds_toArray, List.set_cons_zero, List.set_cons_succ])
        refine wpAnyH_take (i := 8) (v := .int .i64 (t.arrays.length : Int)) rfl (by kernel_rfl) (by kernel_rfl) (by kernel_rfl) (fun _ _ _ h => h) (Or.inl ⟨by rfl, ?_⟩) (by assumption) ?_
        · intro w' hSw; go_simp
        (try simp only [Act.put, List.getElem_toArray, List.getElem_cons_zero, List.getElem_cons_succ, List.setIfInBounds_toArray, List.set_cons_zero, List.set_cons_succ])
        refine wpAnyH_take (i := 9) (v := .int .i64 (y : Int)) rfl (by kernel_rfl) (by kernel_rfl) (by kernel_rfl) (fun _ _ _ h => h) (Or.inl ⟨by rfl, ?_⟩) (by assumption) ?_
        · intro w' hSw; go_simp
        (try simp only [Act.put, List.getElem_toArray, List.getElem_cons_zero, List.getElem_cons_succ, List.setIfInBounds_toArray, List.set_cons_zero, List.set_cons_succ])
        refine wpAnyH_take (i := 10) (v := .pointer (some ⟨ab, ao + y * 2, none⟩)) rfl (by kernel_rfl) (by kernel_rfl) (by kernel_rfl) (fun _ _ _ h => h) (Or.inl ⟨by rfl, ?_⟩) (by assumption) ?_
        · intro w' hSw; go_simp
        (try simp only [Act.put, List.getElem_toArray, List.getElem_cons_zero, List.getElem_cons_succ, List.setIfInBounds_toArray, List.set_cons_zero, List.set_cons_succ])
        refine wpAnyH_take (i := 11) (v := .agg #[.string v.name, .int .i64 v.len]) rfl (by kernel_rfl) (by kernel_rfl) (by kernel_rfl) (fun _ _ _ h => h) (Or.inl ⟨by rfl, ?_⟩) (by assumption) ?_
        · intro w' hSw; obtain ⟨z3, zv, zl⟩ := HCV.out _ hSw; go_simp
        (try simp only [Act.put, List.getElem_toArray, List.getElem_cons_zero, List.getElem_cons_succ, List.setIfInBounds_toArray, List.set_cons_zero, List.set_cons_succ])
        refine wpAnyH_ready (rs := [0, 12]) (by kernel_rfl) (by simp) (AllReadyH.cons rfl (fun K hK => ?_) (AllReadyH.cons rfl (fun K hK => ?_) AllReadyH.nil))
        · skip
          go_simp
          have HA1 := Lib.hid HA0.out.start
          refine hK.out _ _ HA1.out.bel (fun hHeld => ?_)
          clear hK K
          rename_i hOld
          clear hOld
          (try simp only [Act.put, List.getElem_toArray, List.getElem_cons_zero, List.getElem_cons_succ, List.setIfInBounds_toArray, List.set_cons_zero, List.set_cons_succ])
          generalize hw : World.alloc v0 _ = v1 at hHeld HA1 ⊢
          clear hw
          refine wpAnyH_ready (rs := [3, 12]) (by kernel_rfl) (by simp) (AllReadyH.cons rfl (fun K hK => ?_) (AllReadyH.cons rfl (fun K hK => ?_) AllReadyH.nil))
          · skip
            refine step_append_src _ rfl (.tmp 85) (.tmp 87) 22 rfl DA.heap.size 52 tj _ 2 24 Tryd.underlying22 htj jz0 jz1 jz2 rfl (by decide) (.slice (some ⟨v0.heap.size, 0, none⟩) 0 0) 0 [] (by simp [Act.eval]) HA1.out.own (some ⟨ab, ao, none⟩) t.arrays.length qac (t.arrays.flatMap Arr.cells) (by simp [Act.eval]) (HSV.out.below HA1.out.bel) arrs_ones (by unfold maxLen; omega) (by omega) HA1.out.bel.size ?_
            intro r2 v2 hown hgrow hplace
            rw [Nat.zero_add, List.nil_append] at hown
            obtain ⟨ra2, rc2, rfl⟩ := own_val hown
            have HA2 := Lib.hid (HA1.out.grow hown hgrow hplace)
            refine hK.out _ _ HA2.out.bel (fun hHeld => ?_)
            clear hK K hown hgrow hplace
            rename_i hOld
            clear hOld
            (try simp only [Act.put, List.getElem_toArray, List.getElem_cons_zero, List.getElem_cons_succ, List.setIfInBounds_toArray, List.set_cons_zero, List.set_cons_succ])
            refine wpAnyH_ready (rs := [12]) (by kernel_rfl) (by simp) (AllReadyH.cons rfl (fun K hK => ?_) AllReadyH.nil)
            go_simp
            have HA3 := Lib.hid (HA2.out.alloc (.cells #[.string v.name, .int .i64 v.len] 52))
            refine hK.out _ _ HA3.out.bel (fun hHeld => ?_)
            clear hK K
            rename_i hOld
            clear hOld
            (try simp only [Act.put, List.getElem_toArray, List.getElem_cons_zero, List.getElem_cons_succ, List.setIfInBounds_toArray, List.set_cons_zero, List.set_cons_succ])
            generalize hw : World.alloc v2 _ = v3 at hHeld HA3 ⊢
            clear hw
            refine wpAnyH_ready (rs := [13]) (by kernel_rfl) (by simp) (AllReadyH.cons rfl (fun K hK => ?_) AllReadyH.nil)
            refine step_append_src _ rfl (.tmp 88) (.tmp 97) 22 rfl DA.heap.size 52 tj _ 2 24 Tryd.underlying22 htj jz0 jz1 jz2 rfl (by decide) (.slice ra2 t.arrays.length rc2) t.arrays.length ((t.arrays.flatMap Arr.cells)) (by simp [Act.eval]) HA3.out.own (some ⟨v2.heap.size, 0, none⟩) 1 1 [.string v.name, .int .i64 v.len] (by simp [Act.eval]) (one_src (cs := [.string v.name, .int .i64 v.len]) (n := 1) (HA3.out.blk (v2.heap.size, .cells #[.string v.name, .int .i64 v.len] 52) (by simp)).1 rfl) (by simp [Value.oneCell']) (by unfold maxLen; omega) (by omega) HA3.out.bel.size ?_
            intro r4 v4 hown hgrow hplace
            obtain ⟨ra4, rc4, rfl⟩ := own_val hown
            have HA4 := Lib.hid (HA3.out.grow hown hgrow hplace)
            refine hK.out _ _ HA4.out.bel (fun hHeld => ?_)
            clear hK K hown hgrow hplace
            rename_i hOld
            clear hOld
            (try simp only [Act.put, List.getElem_toArray, List.getElem_cons_zero, List.getElem_cons_succ, List.setIfInBounds_toArray, List.set_cons_zero, List.set_cons_succ])
            refine wpAnyH_take (i := 14) (v := .pointer (some ⟨DA.heap.size, 3, none⟩)) rfl (by kernel_rfl) (by kernel_rfl) (by kernel_rfl) (fun _ _ _ h => h) (Or.inl ⟨by rfl, ?_⟩) (by assumption) ?_
            · intro w' hSw; go_simp
            (try simp only [Act.put, List.getElem_toArray, List.getElem_cons_zero, List.getElem_cons_succ, List.setIfInBounds_toArray, List.set_cons_zero, List.set_cons_succ])
            have b0 := (HA4.out.blk (DA.heap.size, tskObj t ⟨qva, qvc, some ⟨ab, ao, none⟩, qac, qka, qkc⟩) (by simp)).1
            have f0 := mem_free b0 3
            have f1 := mem_cell b0 3
            have f1 : v4.cell? ⟨DA.heap.size, 3, none⟩ = some (.slice (some ⟨ab, ao, none⟩) t.arrays.length qac) := f1.trans rfl
            have HEND := Lib.hid (AppSt.put (k := 3) HA4.out (ub := DA.heap.size) (arr := (t.cells ⟨qva, qvc, some ⟨ab, ao, none⟩, qac, qka, qkc⟩)) (T := 45) (show (DA.heap.size, tskObj t ⟨qva, qvc, some ⟨ab, ao, none⟩, qac, qka, qkc⟩) ∈ _ by simp) (by exact Nat.le_refl _))
            clear b0
            refine wpAnyH_ready (rs := [15]) (by kernel_rfl) (by simp) (AllReadyH.cons rfl (fun K hK => ?_) AllReadyH.nil)
            go_simp
            clear f0 f1
            generalize World.setCell _ _ _ = wS at HEND ⊢
            refine hK.out _ _ ((let ⟨_, _, _, _, h⟩ := HEND.out; h)) (fun hHeld => ?_)
            clear hK K
            rename_i hOld
            clear hOld
            (try simp only [Act.put, List.getElem_toArray, List.getElem_cons_zero, List.getElem_cons_succ, List.setIfInBounds_toArray, List.set_cons_zero, List.set_cons_succ])
            refine wpAnyH_done (by kernel_rfl) ?_ _
            exact ⟨[_, _, _, _, _, _, _, _, _, _, _, _, _, _, _], rfl, (by simp only [putAll, List.setIfInBounds_toArray, List.set_cons_zero, List.set_cons_succ]; rfl), HEND.out⟩
          · skip
            go_simp
            have HA2 := Lib.hid (HA1.out.alloc (.cells #[.string v.name, .int .i64 v.len] 52))
            refine hK.out _ _ HA2.out.bel (fun hHeld => ?_)
            clear hK K
            rename_i hOld
            clear hOld
            (try simp only [Act.put, List.getElem_toArray, List.getElem_cons_zero, List.getElem_cons_succ, List.setIfInBounds_toArray, List.set_cons_zero, List.set_cons_succ])
            generalize hw : World.alloc v1 _ = v2 at hHeld HA2 ⊢
            clear hw
            refine wpAnyH_ready (rs := [3]) (by kernel_rfl) (by simp) (AllReadyH.cons rfl (fun K hK => ?_) AllReadyH.nil)
            refine step_append_src _ rfl (.tmp 85) (.tmp 87) 22 rfl DA.heap.size 52 tj _ 2 24 Tryd.underlying22 htj jz0 jz1 jz2 rfl (by decide) (.slice (some ⟨v0.heap.size, 0, none⟩) 0 0) 0 [] (by simp [Act.eval]) HA2.out.own (some ⟨ab, ao, none⟩) t.arrays.length qac (t.arrays.flatMap Arr.cells) (by simp [Act.eval]) (HSV.out.below HA2.out.bel) arrs_ones (by unfold maxLen; omega) (by omega) HA2.out.bel.size ?_
            intro r3 v3 hown hgrow hplace
            rw [Nat.zero_add, List.nil_append] at hown
            obtain ⟨ra3, rc3, rfl⟩ := own_val hown
            have HA3 := Lib.hid (HA2.out.grow hown hgrow hplace)
            refine hK.out _ _ HA3.out.bel (fun hHeld => ?_)
            clear hK K hown hgrow hplace
            rename_i hOld
            clear hOld
            (try simp only [Act.put, List.getElem_toArray, List.getElem_cons_zero, List.getElem_cons_succ, List.setIfInBounds_toArray, List.set_cons_zero, List.set_cons_succ])
            refine wpAnyH_ready (rs := [13]) (by kernel_rfl) (by simp) (AllReadyH.cons rfl (fun K hK => ?_) AllReadyH.nil)
            refine step_append_src _ rfl (.tmp 88) (.tmp 97) 22 rfl DA.heap.size 52 tj _ 2 24 Tryd.underlying22 htj jz0 jz1 jz2 rfl (by decide) (.slice ra3 t.arrays.length rc3) t.arrays.length ((t.arrays.flatMap Arr.cells)) (by simp [Act.eval]) HA3.out.own (some ⟨v1.heap.size, 0, none⟩) 1 1 [.string v.name, .int .i64 v.len] (by simp [Act.eval]) (one_src (cs := [.string v.name, .int .i64 v.len]) (n := 1) (HA3.out.blk (v1.heap.size, .cells #[.string v.name, .int .i64 v.len] 52) (by simp)).1 rfl) (by simp [Value.oneCell']) (by unfold maxLen; omega) (by omega) HA3.out.bel.size ?_
            intro r4 v4 hown hgrow hplace
            obtain ⟨ra4, rc4, rfl⟩ := own_val hown
            have HA4 := Lib.hid (HA3.out.grow hown hgrow hplace)
            refine hK.out _ _ HA4.out.bel (fun hHeld => ?_)
            clear hK K hown hgrow hplace
            rename_i hOld
            clear hOld
            (try simp only [Act.put, List.getElem_toArray, List.getElem_cons_zero, List.getElem_cons_succ, List.setIfInBounds_toArray, List.set_cons_zero, List.set_cons_succ])
            refine wpAnyH_take (i := 14) (v := .pointer (some ⟨DA.heap.size, 3, none⟩)) rfl (by kernel_rfl) (by kernel_rfl) (by kernel_rfl) (fun _ _ _ h => h) (Or.inl ⟨by rfl, ?_⟩) (by assumption) ?_
            · intro w' hSw; go_simp
            (try simp only [Act.put, List.getElem_toArray, List.getElem_cons_zero, List.getElem_cons_succ, List.setIfInBounds_toArray, List.set_cons_zero, List.set_cons_succ])
            have b0 := (HA4.out.blk (DA.heap.size, tskObj t ⟨qva, qvc, some ⟨ab, ao, none⟩, qac, qka, qkc⟩) (by simp)).1
            have f0 := mem_free b0 3
            have f1 := mem_cell b0 3
            have f1 : v4.cell? ⟨DA.heap.size, 3, none⟩ = some (.slice (some ⟨ab, ao, none⟩) t.arrays.length qac) := f1.trans rfl
            have HEND := Lib.hid (AppSt.put (k := 3) HA4.out (ub := DA.heap.size) (arr := (t.cells ⟨qva, qvc, some ⟨ab, ao, none⟩, qac, qka, qkc⟩)) (T := 45) (show (DA.heap.size, tskObj t ⟨qva, qvc, some ⟨ab, ao, none⟩, qac, qka, qkc⟩) ∈ _ by simp) (by exact Nat.le_refl _))
            clear b0
            refine wpAnyH_ready (rs := [15]) (by kernel_rfl) (by simp) (AllReadyH.cons rfl (fun K hK => ?_) AllReadyH.nil)
            go_simp
            clear f0 f1
            generalize World.setCell _ _ _ = wS at HEND ⊢
            refine hK.out _ _ ((let ⟨_, _, _, _, h⟩ := HEND.out; h)) (fun hHeld => ?_)
            clear hK K
            rename_i hOld
            clear hOld
            (try simp only [Act.put, List.getElem_toArray, List.getElem_cons_zero, List.getElem_cons_succ, List.setIfInBounds_toArray, List.set_cons_zero, List.set_cons_succ])
            refine wpAnyH_done (by kernel_rfl) ?_ _
            exact ⟨[_, _, _, _, _, _, _, _, _, _, _, _, _, _, _], rfl, (by simp only [putAll, List.setIfInBounds_toArray, List.set_cons_zero, List.set_cons_succ]; rfl), HEND.out⟩
        · skip
          go_simp
          have HA1 := Lib.hid (HA0.out.alloc (.cells #[.string v.name, .int .i64 v.len] 52))
          refine hK.out _ _ HA1.out.bel (fun hHeld => ?_)
          clear hK K
          rename_i hOld
          clear hOld
          (try simp only [Act.put, List.getElem_toArray, List.getElem_cons_zero, List.getElem_cons_succ, List.setIfInBounds_toArray, List.set_cons_zero, List.set_cons_succ])
          generalize hw : World.alloc v0 _ = v1 at hHeld HA1 ⊢
          clear hw
          refine wpAnyH_ready (rs := [0]) (by kernel_rfl) (by simp) (AllReadyH.cons rfl (fun K hK => ?_) AllReadyH.nil)
          go_simp
          have HA2 := Lib.hid HA1.out.start
          refine hK.out _ _ HA2.out.bel (fun hHeld => ?_)
          clear hK K
          rename_i hOld
          clear hOld
          (try simp only [Act.put, List.getElem_toArray, List.getElem_cons_zero, List.getElem_cons_succ, List.setIfInBounds_toArray, List.set_cons_zero, List.set_cons_succ])
          generalize hw : World.alloc v1 _ = v2 at hHeld HA2 ⊢
          clear hw
          refine wpAnyH_ready (rs := [3]) (by kernel_rfl) (by simp) (AllReadyH.cons rfl (fun K hK => ?_) AllReadyH.nil)
          refine step_append_src _ rfl (.tmp 85) (.tmp 87) 22 rfl DA.heap.size 52 tj _ 2 24 Tryd.underlying22 htj jz0 jz1 jz2 rfl (by decide) (.slice (some ⟨v1.heap.size, 0, none⟩) 0 0) 0 [] (by simp [Act.eval]) HA2.out.own (some ⟨ab, ao, none⟩) t.arrays.length qac (t.arrays.flatMap Arr.cells) (by simp [Act.eval]) (HSV.out.below HA2.out.bel) arrs_ones (by unfold maxLen; omega) (by omega) HA2.out.bel.size ?_
          intro r3 v3 hown hgrow hplace
          rw [Nat.zero_add, List.nil_append] at hown
          obtain ⟨ra3, rc3, rfl⟩ := own_val hown
          have HA3 := Lib.hid (HA2.out.grow hown hgrow hplace)
          refine hK.out _ _ HA3.out.bel (fun hHeld => ?_)
          clear hK K hown hgrow hplace
          rename_i hOld
          clear hOld
          (try simp only [Act.put, List.getElem_toArray, List.getElem_cons_zero, List.getElem_cons_succ, List.setIfInBounds_toArray, List.set_cons_zero, List.set_cons_succ])
          refine wpAnyH_ready (rs := [13]) (by kernel_rfl) (by simp) (AllReadyH.cons rfl (fun K hK => ?_) AllReadyH.nil)
          refine step_append_src _ rfl (.tmp 88) (.tmp 97) 22 rfl DA.heap.size 52 tj _ 2 24 Tryd.underlying22 htj jz0 jz1 jz2 rfl (by decide) (.slice ra3 t.arrays.length rc3) t.arrays.length ((t.arrays.flatMap Arr.cells)) (by simp [Act.eval]) HA3.out.own (some ⟨v0.heap.size, 0, none⟩) 1 1 [.string v.name, .int .i64 v.len] (by simp [Act.eval]) (one_src (cs := [.string v.name, .int .i64 v.len]) (n := 1) (HA3.out.blk (v0.heap.size, .cells #[.string v.name, .int .i64 v.len] 52) (by simp)).1 rfl) (by simp [Value.oneCell']) (by unfold maxLen; omega) (by omega) HA3.out.bel.size ?_
          intro r4 v4 hown hgrow hplace
          obtain ⟨ra4, rc4, rfl⟩ := own_val hown
          have HA4 := Lib.hid (HA3.out.grow hown hgrow hplace)
          refine hK.out _ _ HA4.out.bel (fun hHeld => ?_)
          clear hK K hown hgrow hplace
          rename_i hOld
          clear hOld
          (try simp only [Act.put, List.getElem_toArray, List.getElem_cons_zero, List.getElem_cons_succ, List.setIfInBounds_toArray, List.set_cons_zero, List.set_cons_succ])
          refine wpAnyH_take (i := 14) (v := .pointer (some ⟨DA.heap.size, 3, none⟩)) rfl (by kernel_rfl) (by kernel_rfl) (by kernel_rfl) (fun _ _ _ h => h) (Or.inl ⟨by rfl, ?_⟩) (by assumption) ?_
          · intro w' hSw; go_simp
          (try simp only [Act.put, List.getElem_toArray, List.getElem_cons_zero, List.getElem_cons_succ, List.setIfInBounds_toArray, List.set_cons_zero, List.set_cons_succ])
          have b0 := (HA4.out.blk (DA.heap.size, tskObj t ⟨qva, qvc, some ⟨ab, ao, none⟩, qac, qka, qkc⟩) (by simp)).1
          have f0 := mem_free b0 3
          have f1 := mem_cell b0 3
          have f1 : v4.cell? ⟨DA.heap.size, 3, none⟩ = some (.slice (some ⟨ab, ao, none⟩) t.arrays.length qac) := f1.trans rfl
          have HEND := Lib.hid (AppSt.put (k := 3) HA4.out (ub := DA.heap.size) (arr := (t.cells ⟨qva, qvc, some ⟨ab, ao, none⟩, qac, qka, qkc⟩)) (T := 45) (show (DA.heap.size, tskObj t ⟨qva, qvc, some ⟨ab, ao, none⟩, qac, qka, qkc⟩) ∈ _ by simp) (by exact Nat.le_refl _))
          clear b0
          refine wpAnyH_ready (rs := [15]) (by kernel_rfl) (by simp) (AllReadyH.cons rfl (fun K hK => ?_) AllReadyH.nil)
          go_simp
          clear f0 f1
          generalize World.setCell _ _ _ = wS at HEND ⊢
          refine hK.out _ _ ((let ⟨_, _, _, _, h⟩ := HEND.out; h)) (fun hHeld => ?_)
          clear hK K
          rename_i hOld
          clear hOld
          (try simp only [Act.put, List.getElem_toArray, List.getElem_cons_zero, List.getElem_cons_succ, List.setIfInBounds_toArray, List.set_cons_zero, List.set_cons_succ])
          refine wpAnyH_done (by kernel_rfl) ?_ _
          exact ⟨[_, _, _, _, _, _, _, _, _, _, _, _, _, _, _], rfl, (by simp only [putAll, List.setIfInBounds_toArray, List.set_cons_zero, List.set_cons_succ]; rfl), HEND.out⟩
      · rintro a' w3 ⟨l, hl, rfl, A, c, hbx, hown, hBe⟩
        obtain ⟨l0, l1, l2, l3, l4, l5, l6, l7, l8, l9, l10, l11, l12, l13, l14, rfl⟩ := list15 hl
        simp only [putAll, List.setIfInBounds_toArray, List.set_cons_zero, List.set_cons_succ]
        have HOWN : Hid (ArrsAt w3 A (t.arrays ++ [v])) := arrs_own (c := c) (by rw [List.length_append, List.flatMap_append]; exact hown) (fun s hs => by
          rcases List.mem_append.1 hs with hs | hs
          · exact HINW.out.arrays.sizes s hs
          · obtain rfl := List.mem_singleton.1 hs
            exact HINW.out.arrays.sizes _ HVM.out)
        have HBE := Lib.hid hBe
        have HBX3 : Hid (w3.heap[DA.heap.size]? = some (tskObj (arrsT t v) ⟨qva, qvc, A, c, qka, qkc⟩)) := by
          show _ = some (Obj.cells #[.string t.name, .int .i64 t.period, .slice qva t.vars.length qvc, .slice A (t.arrays ++ [v]).length c, .int .u8 t.body.kind, .int .i64 t.body.num, .string t.body.name, .slice qka t.body.len qkc] 45)
          rw [List.length_append]
          exact hbx
        clear hl hbx hown hBe
        have b0 := mem_cell HBX3.out 0
        have b1 := mem_cell HBX3.out 1
        have b2 := mem_cell HBX3.out 2
        have b3 := mem_cell HBX3.out 3
        have b4 := mem_cell HBX3.out 4
        have b5 := mem_cell HBX3.out 5
        have b6 := mem_cell HBX3.out 6
        have b7 := mem_cell HBX3.out 7
        simp only [Tsk.cells, List.getElem?_toArray, List.getElem?_cons_zero, List.getElem?_cons_succ] at b0 b1 b2 b3 b4 b5 b6 b7
        obtain ⟨_, y0, y1, hp3, hg3, hx3, hin3⟩ := HKA.out w3 HBE.out
        have HP3 := Lib.hid hp3
        have HG3 := Lib.hid hg3
        have HIN3 := Lib.hid hin3
        clear hp3 hg3 hx3 hin3
        go_wp2_with fail
        refine (swap_any p i (arrsT t v) ⟨qva, qvc, A, c, qka, qkc⟩ w3 sa (some ⟨tb, tf, none⟩) sc tc HP3.out ⟨HIN3.out.name, HIN3.out.period, HIN3.out.vars, HOWN.out, HIN3.out.body⟩ hil (by have := HLE.out.2.1; omega)).mono ?_
        rintro e w4 ⟨ta', tc', rfl, hp4, hB4⟩
        have HB4 : Hid (Below DA.heap.size DA w4) := mem_then HBE.out hB4
        have HP4 := Lib.hid hp4
        have HG4 := Lib.hid (HKA.out w4 HB4.out).2.2.2.2.1
        clear hp4 hB4 y0 y1 b0 b1 b2 b3 b4 b5 b6 b7
        obtain ⟨E2, hE2⟩ : ∃ E2 : World, w4.alloc (.cells #[.slice none 0 0] 33) = E2 := ⟨_, rfl⟩
        have hBE2 : Below w4.heap.size w4 E2 := by rw [← hE2]; exact mem_alloc _ _
        have HPS : Hid (PathsAt E2 (some ⟨w4.heap.size, 0, none⟩) [[]]) := ⟨by show 1 ≤ _; omega, fun n hn => by
          have hn : n < 1 := hn
          obtain rfl : n = 0 := by omega
          exact ⟨w4.heap.size, 0, none, 0, rfl, by rw [← hE2]; exact mem_cell (mem_new _ _) 0, IRow.nil⟩⟩
        have HP5 := Lib.hid (HP4.out.below hBE2)
        have HG5 := Lib.hid (HG4.out.below hBE2)
        have HB5 : Hid (Below DA.heap.size DA E2) := mem_then HB4.out hBE2
        have HO : Hid (onlyP (swapP p i (arrsT t v)) (i : Int) 8 [[]] = true) := by
          have h := twice_arrs (x := v) HOK.out hil (by rw [HT.out]; exact HVM.out) (by rw [HT.out]; exact hv2)
          rwa [HT.out] at h
        clear hBE2
        go_wp2_with fail
        clear hE2
        have h9 := only_any (swapP p i (arrsT t v)) (i : Int) 8 [[]] E2 sa ta' (some ⟨w4.heap.size, 0, none⟩) sc tc' 1 HP5.out HG5.out HPS.out
        refine h9.mono ?_
        clear h9
        rintro e w6 ⟨he, hB6⟩
        rw [HO.out] at he
        subst he
        have HB6 : Hid (Below DA.heap.size DA w6) := mem_then HB5.out hB6
        clear hB6
        go_wp2_with fail
        go_meet
        exact HB6.out
    | false =>
      go_wp2_with fail
      go_meet
      exact Below.refl _ _
  obtain ⟨DS, hDS⟩ : ∃ DS : World, DS = wc := ⟨_, rfl⟩
  rw [← hDS] at hcut ⊢
  clear hDS
  have HBcDS := Lib.hid hcut
  have HKS : Hid (∀ w', Below DS.heap.size DS w' → Below w.heap.size w w' ∧ w'.cell? ⟨w.heap.size, 0, none⟩ = some (.slice sa p.shared.length sc) ∧ w'.cell? ⟨w.heap.size, 1, none⟩ = some (.slice (some ⟨tb, tf, none⟩) p.tasks.length tc) ∧ PrgAt w' p sa (some ⟨tb, tf, none⟩) ∧ SignsIn w' ∧ w'.heap[w2.heap.size]? = some (tskObj t q) ∧ TskIn w' t q) := fun w' h => HKA.out w' (mem_then HBcDS.out h)
  clear hcut
  have e0 : DS.cell? ⟨w.heap.size, 0, none⟩ = some (.slice sa p.shared.length sc) := (HKS.out DS (Below.refl _ _)).2.1
  go_upto_region 18 with fail
  clear e0
  go_cut [116] (fun s w' => s = .bool (decide (0 < p.shared.length ∧ p.shared.length < 4)) ∧ w' = DS)
  case first =>
    by_cases hv : 0 < p.shared.length
    · have hv3 : (0 : Int) < (p.shared.length : Int) := by omega
      by_cases hw : p.shared.length < 4
      · have hv4 : (p.shared.length : Int) < 4 := by omega
        have HE : Hid (decide (0 < p.shared.length ∧ p.shared.length < 4) = true) := decide_eq_true ⟨hv, hw⟩
        go_wp2_with fail
        go_meet
        exact ⟨by rw [HE.out], rfl⟩
      · have hv4 : ¬ (p.shared.length : Int) < 4 := by omega
        have HE : Hid (decide (0 < p.shared.length ∧ p.shared.length < 4) = false) := decide_eq_false (fun h => hw h.2)
        go_wp2_with fail
        go_meet
        exact ⟨by rw [HE.out], rfl⟩
    · have hv4 : ¬ (0 : Int) < (p.shared.length : Int) := by omega
      have HE : Hid (decide (0 < p.shared.length ∧ p.shared.length < 4) = false) := decide_eq_false (fun h => hv h.1)
      go_wp2_with fail
      go_meet
      exact ⟨by rw [HE.out], rfl⟩
  obtain ⟨rfl, hwD⟩ := hcut
  rw [hwD]
  clear hwD
  obtain ⟨bs, hbs⟩ : ∃ bs, decide (0 < p.shared.length ∧ p.shared.length < 4) = bs := ⟨_, rfl⟩
  rw [hbs]
  have HBS := Lib.hid hbs
  clear hbs
  go_upto_if 116 with fail
  go_cut [] from 117 to 136 (fun w' => Below DS.heap.size DS w')
  case first =>
    cases bs with
    | true =>
      have hv := of_decide_eq_true HBS.out
      have hv1 : 0 < p.shared.length := hv.1
      have hv2 : p.shared.length < 4 := hv.2
      have hv3 : (0 : Int) < (p.shared.length : Int) := by omega
      have hv4 : (p.shared.length : Int) < 4 := by omega
      have hv5 : decide ((0 : Int) < (p.shared.length : Int)) = true := by simpa using hv1
      have hv6 : decide ((p.shared.length : Int) < 4) = true := decide_eq_true hv4
      clear hv
      have hy0 : (p.shared.length : Int) ≠ 0 := by omega
      obtain ⟨y, hy⟩ : ∃ y : Nat, wh % (p.shared.length : Int) = (y : Int) := ⟨(wh % (p.shared.length : Int)).toNat, by have := Int.emod_nonneg wh hy0; omega⟩
      have hyl : y < p.shared.length := by have := Int.emod_lt_of_pos wh hv3; omega
      have hyl2 : (y : Int) < (p.shared.length : Int) := by omega
      have hyl0 : (0 : Int) ≤ (y : Int) := by omega
      obtain ⟨_, x0, x1, hp2, hg2, _⟩ := HKS.out DS (Below.refl _ _)
      obtain ⟨sb, so, hsa, hvc, hvc1, _⟩ := hp2.1.2 y hyl
      obtain ⟨v, hv⟩ : ∃ v, p.shared.getD y Arr.none = v := ⟨_, rfl⟩
      rw [hv] at hvc hvc1
      have HVM : Hid (v ∈ p.shared) := by show _ ∈ _; rw [← hv]; simp [hyl]
      obtain rfl : sa = some ⟨sb, so, none⟩ := hsa
      obtain ⟨E, hE⟩ : ∃ E : World, DS.alloc (prgObj p (some ⟨sb, so, none⟩) sc (some ⟨tb, tf, none⟩) tc) = E := ⟨_, rfl⟩
      have HCV : Hid (∀ w', Below DS.heap.size DS w' → w'.cell? ⟨w.heap.size, 0, none⟩ = some (.slice (some ⟨sb, so, none⟩) p.shared.length sc) ∧ w'.cell? ⟨sb, so + y * 2, none⟩ = some (.string v.name) ∧ w'.cell? ⟨sb, so + y * 2 + 1, none⟩ = some (.int .i64 v.len)) := fun w' h => by
        obtain ⟨_, h0, _⟩ := HKS.out w' h
        exact ⟨h0, cell_below h hvc, cell_below h hvc1⟩
      have HSV : Hid (Src DS (some ⟨sb, so, none⟩) p.shared.length 2 (p.shared.flatMap Arr.cells)) := hp2.1.src
      have HAtw20 : Hid (AppSt DS [(DS.heap.size, prgObj p (some ⟨sb, so, none⟩) sc (some ⟨tb, tf, none⟩) tc)] 52 2 (.slice none 0 0) 0 [] E) := by
        show AppSt _ _ _ _ _ _ _ _
        rw [← hE]
        exact AppSt.begin (mem_alloc _ _) (fun x hx => by obtain rfl := List.mem_singleton.1 hx; exact mem_new _ _)
      have HSZ := Lib.hid hp2.1.sizes
      clear hp2 hg2 hvc hvc1 hv
      go_wp2_with fail
      have hwr : IntKind.i64.wrap wh = wh := by rw [IntKind.wrap_i64]; omega
      have hym : wh.tmod (p.shared.length : Int) = (y : Int) := by rw [Int.tmod_eq_emod_of_nonneg hwh.1]; exact hy
      have hvne : p.shared ≠ [] := fun h => by rw [h] at hv1; exact absurd hv1 (Nat.lt_irrefl _)
      clear hE x0 x1
      refine cut_runA (RunEnd 118 15 (AppEnd DS DS.heap.size #[.slice (some ⟨sb, so, none⟩) p.shared.length sc, .slice (some ⟨tb, tf, none⟩) p.tasks.length tc] 25 52 2 0 (p.shared.length + 1) (p.shared.flatMap Arr.cells ++ [.string v.name, .int .i64 v.len]))) ?_ ?_
      · skip
        refine wp_region_held_drew (S := fun w' => Below DS.heap.size DS w') (by kernel_rfl) (HAtw20.out.bel.drew) (fun hHeld => ?_)
        have HA0 : Hid (AppSt DS [(DS.heap.size, prgObj p (some ⟨sb, so, none⟩) sc (some ⟨tb, tf, none⟩) tc)] 52 2 (.slice none 0 0) 0 [] (World.drew _)) := AppSt.begin hHeld (fun x hx => by have := (HAtw20.out.blk x hx).1; exact this)
        generalize hw0 : World.drew _ = v0 at hHeld HA0 ⊢
        clear hw0
        refine wpAnyH_take (i := 1) (v := .pointer (some ⟨w.heap.size, 0, none⟩)) rfl (by kernel_rfl) (by kernel_rfl) (by kernel_rfl) (fun _ _ _ h => h) (Or.inl ⟨by rfl, ?_⟩) (by assumption) ?_
        · intro w' hSw; go_simp
        (try simp only [Act.put, List.getElem_toArray, List.getElem_cons_zero, List.getElem_cons_succ, List.setIfInBounds_toArray, List.set_cons_zero, List.set_cons_succ])
        refine wpAnyH_take (i := 2) (v := .slice (some ⟨sb, so, none⟩) p.shared.length sc) rfl (by kernel_rfl) (by kernel_rfl) (by kernel_rfl) (fun _ _ _ h => h) (Or.inl ⟨by rfl, ?_⟩) (by assumption) ?_
        · intro w' hSw; obtain ⟨z3, zv, zl⟩ := HCV.out _ hSw; go_simp
        (try simp only [Act.put, List.getElem_toArray, List.getElem_cons_zero, List.getElem_cons_succ, List.setIfInBounds_toArray, List.set_cons_zero, List.set_cons_succ])
        refine wpAnyH_take (i := 4) (v := .pointer (some ⟨w.heap.size, 0, none⟩)) rfl (by kernel_rfl) (by kernel_rfl) (by kernel_rfl) (fun _ _ _ h => h) (Or.inl ⟨by rfl, ?_⟩) (by assumption) ?_
        · intro w' hSw; go_simp
        (try simp only [Act.put, List.getElem_toArray, List.getElem_cons_zero, List.getElem_cons_succ, List.setIfInBounds_toArray, List.set_cons_zero, List.set_cons_succ])
        refine wpAnyH_take (i := 5) (v := .slice (some ⟨sb, so, none⟩) p.shared.length sc) rfl (by kernel_rfl) (by kernel_rfl) (by kernel_rfl) (fun _ _ _ h => h) (Or.inl ⟨by rfl, ?_⟩) (by assumption) ?_
        · intro w' hSw; obtain ⟨z3, zv, zl⟩ := HCV.out _ hSw; go_simp
        (try simp only [Act.put, List.getElem_toArray, List.getElem_cons_zero, List.getElem_cons_succ, List.setIfInBounds_toArray, List.set_cons_zero, List.set_cons_succ])
        refine wpAnyH_take (i := 6) (v := .int .u8 wh) rfl (by kernel_rfl) (by kernel_rfl) (by kernel_rfl) (fun _ _ _ h => h) (Or.inl ⟨by rfl, ?_⟩) (by assumption) ?_
        · intro w' hSw; go_simp
        (try simp only [Act.put, List.getElem_toArray, List.getElem_cons_zero, List.getElem_cons_succ, List.setIfInBounds_toArray, List.set_cons_zero, List.set_cons_succ])
        refine wpAnyH_take (i := 7) (v := .int .i64 wh) rfl (by kernel_rfl) (by kernel_rfl) (by kernel_rfl) (fun _ _ _ h => h) (Or.inl ⟨by rfl, ?_⟩) (by assumption) ?_
        · intro w' hSw; go_simp
        (try simp only [Act.put, List.getElem_toArray, List.getElem_cons_zero, List.getElem_cons_succ, List.setIfInBounds_toArray, List.set_cons_zero, List.set_cons_succ])
        refine wpAnyH_take (i := 8) (v := .int .i64 (p.shared.length : Int)) rfl (by kernel_rfl) (by kernel_rfl) (by kernel_rfl) (fun _ _ _ h => h) (Or.inl ⟨by rfl, ?_⟩) (by assumption) ?_
        · intro w' hSw; go_simp
        (try simp only [Act.put, List.getElem_toArray, List.getElem_cons_zero, List.getElem_cons_succ, List.setIfInBounds_toArray, List.set_cons_zero, List.set_cons_succ])
        refine wpAnyH_take (i := 9) (v := .int .i64 (y : Int)) rfl (by kernel_rfl) (by kernel_rfl) (by kernel_rfl) (fun _ _ _ h => h) (Or.inl ⟨by rfl, ?_⟩) (by assumption) ?_
        · intro w' hSw; go_simp
        (try simp only [Act.put, List.getElem_toArray, List.getElem_cons_zero, List.getElem_cons_succ, List.setIfInBounds_toArray, List.set_cons_zero, List.set_cons_succ])
        refine wpAnyH_take (i := 10) (v := .pointer (some ⟨sb, so + y * 2, none⟩)) rfl (by kernel_rfl) (by kernel_rfl) (by kernel_rfl) (fun _ _ _ h => h) (Or.inl ⟨by rfl, ?_⟩) (by assumption) ?_
        · intro w' hSw; go_simp
        (try simp only [Act.put, List.getElem_toArray, List.getElem_cons_zero, List.getElem_cons_succ, List.setIfInBounds_toArray, List.set_cons_zero, List.set_cons_succ])
        refine wpAnyH_take (i := 11) (v := .agg #[.string v.name, .int .i64 v.len]) rfl (by kernel_rfl) (by kernel_rfl) (by kernel_rfl) (fun _ _ _ h => h) (Or.inl ⟨by rfl, ?_⟩) (by assumption) ?_
        · intro w' hSw; obtain ⟨z3, zv, zl⟩ := HCV.out _ hSw; go_simp
        (try simp only [Act.put, List.getElem_toArray, List.getElem_cons_zero, List.getElem_cons_succ, List.setIfInBounds_toArray, List.set_cons_zero, List.set_cons_succ])
        refine wpAnyH_ready (rs := [0, 12]) (by kernel_rfl) (by simp) (AllReadyH.cons rfl (fun K hK => ?_) (AllReadyH.cons rfl (fun K hK => ?_) AllReadyH.nil))
        · skip
          go_simp
          have HA1 := Lib.hid HA0.out.start
          refine hK.out _ _ HA1.out.bel (fun hHeld => ?_)
          clear hK K
          rename_i hOld
          clear hOld
          (try simp only [Act.put, List.getElem_toArray, List.getElem_cons_zero, List.getElem_cons_succ, List.setIfInBounds_toArray, List.set_cons_zero, List.set_cons_succ])
          generalize hw : World.alloc v0 _ = v1 at hHeld HA1 ⊢
          clear hw
          refine wpAnyH_ready (rs := [3, 12]) (by kernel_rfl) (by simp) (AllReadyH.cons rfl (fun K hK => ?_) (AllReadyH.cons rfl (fun K hK => ?_) AllReadyH.nil))
          · skip
            refine step_append_src _ rfl (.tmp 118) (.tmp 120) 22 rfl DS.heap.size 52 tj _ 2 24 Tryd.underlying22 htj jz0 jz1 jz2 rfl (by decide) (.slice (some ⟨v0.heap.size, 0, none⟩) 0 0) 0 [] (by simp [Act.eval]) HA1.out.own (some ⟨sb, so, none⟩) p.shared.length sc (p.shared.flatMap Arr.cells) (by simp [Act.eval]) (HSV.out.below HA1.out.bel) arrs_ones (by unfold maxLen; omega) (by omega) HA1.out.bel.size ?_
            intro r2 v2 hown hgrow hplace
            rw [Nat.zero_add, List.nil_append] at hown
            obtain ⟨ra2, rc2, rfl⟩ := own_val hown
            have HA2 := Lib.hid (HA1.out.grow hown hgrow hplace)
            refine hK.out _ _ HA2.out.bel (fun hHeld => ?_)
            clear hK K hown hgrow hplace
            rename_i hOld
            clear hOld
            (try simp only [Act.put, List.getElem_toArray, List.getElem_cons_zero, List.getElem_cons_succ, List.setIfInBounds_toArray, List.set_cons_zero, List.set_cons_succ])
            refine wpAnyH_ready (rs := [12]) (by kernel_rfl) (by simp) (AllReadyH.cons rfl (fun K hK => ?_) AllReadyH.nil)
            go_simp
            have HA3 := Lib.hid (HA2.out.alloc (.cells #[.string v.name, .int .i64 v.len] 52))
            refine hK.out _ _ HA3.out.bel (fun hHeld => ?_)
            clear hK K
            rename_i hOld
            clear hOld
            (try simp only [Act.put, List.getElem_toArray, List.getElem_cons_zero, List.getElem_cons_succ, List.setIfInBounds_toArray, List.set_cons_zero, List.set_cons_succ])
            generalize hw : World.alloc v2 _ = v3 at hHeld HA3 ⊢
            clear hw
            refine wpAnyH_ready (rs := [13]) (by kernel_rfl) (by simp) (AllReadyH.cons rfl (fun K hK => ?_) AllReadyH.nil)
            refine step_append_src _ rfl (.tmp 121) (.tmp 130) 22 rfl DS.heap.size 52 tj _ 2 24 Tryd.underlying22 htj jz0 jz1 jz2 rfl (by decide) (.slice ra2 p.shared.length rc2) p.shared.length ((p.shared.flatMap Arr.cells)) (by simp [Act.eval]) HA3.out.own (some ⟨v2.heap.size, 0, none⟩) 1 1 [.string v.name, .int .i64 v.len] (by simp [Act.eval]) (one_src (cs := [.string v.name, .int .i64 v.len]) (n := 1) (HA3.out.blk (v2.heap.size, .cells #[.string v.name, .int .i64 v.len] 52) (by simp)).1 rfl) (by simp [Value.oneCell']) (by unfold maxLen; omega) (by omega) HA3.out.bel.size ?_
            intro r4 v4 hown hgrow hplace
            obtain ⟨ra4, rc4, rfl⟩ := own_val hown
            have HA4 := Lib.hid (HA3.out.grow hown hgrow hplace)
            refine hK.out _ _ HA4.out.bel (fun hHeld => ?_)
            clear hK K hown hgrow hplace
            rename_i hOld
            clear hOld
            (try simp only [Act.put, List.getElem_toArray, List.getElem_cons_zero, List.getElem_cons_succ, List.setIfInBounds_toArray, List.set_cons_zero, List.set_cons_succ])
            refine wpAnyH_take (i := 14) (v := .pointer (some ⟨DS.heap.size, 0, none⟩)) rfl (by kernel_rfl) (by kernel_rfl) (by kernel_rfl) (fun _ _ _ h => h) (Or.inl ⟨by rfl, ?_⟩) (by assumption) ?_
            · intro w' hSw; go_simp
            (try simp only [Act.put, List.getElem_toArray, List.getElem_cons_zero, List.getElem_cons_succ, List.setIfInBounds_toArray, List.set_cons_zero, List.set_cons_succ])
            have b0 := (HA4.out.blk (DS.heap.size, prgObj p (some ⟨sb, so, none⟩) sc (some ⟨tb, tf, none⟩) tc) (by simp)).1
            have f0 := mem_free b0 0
            have f1 := mem_cell b0 0
            have f1 : v4.cell? ⟨DS.heap.size, 0, none⟩ = some (.slice (some ⟨sb, so, none⟩) p.shared.length sc) := f1.trans rfl
            have HEND := Lib.hid (AppSt.put (k := 0) HA4.out (ub := DS.heap.size) (arr := #[.slice (some ⟨sb, so, none⟩) p.shared.length sc, .slice (some ⟨tb, tf, none⟩) p.tasks.length tc]) (T := 25) (show (DS.heap.size, prgObj p (some ⟨sb, so, none⟩) sc (some ⟨tb, tf, none⟩) tc) ∈ _ by simp) (by exact Nat.le_refl _))
            clear b0
            refine wpAnyH_ready (rs := [15]) (by kernel_rfl) (by simp) (AllReadyH.cons rfl (fun K hK => ?_) AllReadyH.nil)
            go_simp
            clear f0 f1
            generalize World.setCell _ _ _ = wS at HEND ⊢
            refine hK.out _ _ ((let ⟨_, _, _, _, h⟩ := HEND.out; h)) (fun hHeld => ?_)
            clear hK K
            rename_i hOld
            clear hOld
            (try simp only [Act.put, List.getElem_toArray, List.getElem_cons_zero, List.getElem_cons_succ, List.setIfInBounds_toArray, List.set_cons_zero, List.set_cons_succ])
            refine wpAnyH_done (by kernel_rfl) ?_ _
            exact ⟨[_, _, _, _, _, _, _, _, _, _, _, _, _, _, _], rfl, (by simp only [putAll, List.setIfInBounds_toArray, List.set_cons_zero, List.set_cons_succ]; rfl), HEND.out⟩
          · skip
            go_simp
            have HA2 := Lib.hid (HA1.out.alloc (.cells #[.string v.name, .int .i64 v.len] 52))
            refine hK.out _ _ HA2.out.bel (fun hHeld => ?_)
            clear hK K
            rename_i hOld
            clear hOld
            (try simp only [Act.put, List.getElem_toArray, List.getElem_cons_zero, List.getElem_cons_succ, List.setIfInBounds_toArray, List.set_cons_zero, List.set_cons_succ])
            generalize hw : World.alloc v1 _ = v2 at hHeld HA2 ⊢
            clear hw
            refine wpAnyH_ready (rs := [3]) (by kernel_rfl) (by simp) (AllReadyH.cons rfl (fun K hK => ?_) AllReadyH.nil)
            refine step_append_src _ rfl (.tmp 118) (.tmp 120) 22 rfl DS.heap.size 52 tj _ 2 24 Tryd.underlying22 htj jz0 jz1 jz2 rfl (by decide) (.slice (some ⟨v0.heap.size, 0, none⟩) 0 0) 0 [] (by simp [Act.eval]) HA2.out.own (some ⟨sb, so, none⟩) p.shared.length sc (p.shared.flatMap Arr.cells) (by simp [Act.eval]) (HSV.out.below HA2.out.bel) arrs_ones (by unfold maxLen; omega) (by omega) HA2.out.bel.size ?_
            intro r3 v3 hown hgrow hplace
            rw [Nat.zero_add, List.nil_append] at hown
            obtain ⟨ra3, rc3, rfl⟩ := own_val hown
            have HA3 := Lib.hid (HA2.out.grow hown hgrow hplace)
            refine hK.out _ _ HA3.out.bel (fun hHeld => ?_)
            clear hK K hown hgrow hplace
            rename_i hOld
            clear hOld
            (try simp only [Act.put, List.getElem_toArray, List.getElem_cons_zero, List.getElem_cons_succ, List.setIfInBounds_toArray, List.set_cons_zero, List.set_cons_succ])
            refine wpAnyH_ready (rs := [13]) (by kernel_rfl) (by simp) (AllReadyH.cons rfl (fun K hK => ?_) AllReadyH.nil)
            refine step_append_src _ rfl (.tmp 121) (.tmp 130) 22 rfl DS.heap.size 52 tj _ 2 24 Tryd.underlying22 htj jz0 jz1 jz2 rfl (by decide) (.slice ra3 p.shared.length rc3) p.shared.length ((p.shared.flatMap Arr.cells)) (by simp [Act.eval]) HA3.out.own (some ⟨v1.heap.size, 0, none⟩) 1 1 [.string v.name, .int .i64 v.len] (by simp [Act.eval]) (one_src (cs := [.string v.name, .int .i64 v.len]) (n := 1) (HA3.out.blk (v1.heap.size, .cells #[.string v.name, .int .i64 v.len] 52) (by simp)).1 rfl) (by simp [Value.oneCell']) (by unfold maxLen; omega) (by omega) HA3.out.bel.size ?_
            intro r4 v4 hown hgrow hplace
            obtain ⟨ra4, rc4, rfl⟩ := own_val hown
            have HA4 := Lib.hid (HA3.out.grow hown hgrow hplace)
            refine hK.out _ _ HA4.out.bel (fun hHeld => ?_)
            clear hK K hown hgrow hplace
            rename_i hOld
            clear hOld
            (try simp only [Act.put, List.getElem_toArray, List.getElem_cons_zero, List.getElem_cons_succ, List.setIfInBounds_toArray, List.set_cons_zero, List.set_cons_succ])
            refine wpAnyH_take (i := 14) (v := .pointer (some ⟨DS.heap.size, 0, none⟩)) rfl (by kernel_rfl) (by kernel_rfl) (by kernel_rfl) (fun _ _ _ h => h) (Or.inl ⟨by rfl, ?_⟩) (by assumption) ?_
            · intro w' hSw; go_simp
            (try simp only [Act.put, List.getElem_toArray, List.getElem_cons_zero, List.getElem_cons_succ, List.setIfInBounds_toArray, List.set_cons_zero, List.set_cons_succ])
            have b0 := (HA4.out.blk (DS.heap.size, prgObj p (some ⟨sb, so, none⟩) sc (some ⟨tb, tf, none⟩) tc) (by simp)).1
            have f0 := mem_free b0 0
            have f1 := mem_cell b0 0
            have f1 : v4.cell? ⟨DS.heap.size, 0, none⟩ = some (.slice (some ⟨sb, so, none⟩) p.shared.length sc) := f1.trans rfl
            have HEND := Lib.hid (AppSt.put (k := 0) HA4.out (ub := DS.heap.size) (arr := #[.slice (some ⟨sb, so, none⟩) p.shared.length sc, .slice (some ⟨tb, tf, none⟩) p.tasks.length tc]) (T := 25) (show (DS.heap.size, prgObj p (some ⟨sb, so, none⟩) sc (some ⟨tb, tf, none⟩) tc) ∈ _ by simp) (by exact Nat.le_refl _))
            clear b0
            refine wpAnyH_ready (rs := [15]) (by kernel_rfl) (by simp) (AllReadyH.cons rfl (fun K hK => ?_) AllReadyH.nil)
            go_simp
            clear f0 f1
            generalize World.setCell _ _ _ = wS at HEND ⊢
            refine hK.out _ _ ((let ⟨_, _, _, _, h⟩ := HEND.out; h)) (fun hHeld => ?_)
            clear hK K
            rename_i hOld
            clear hOld
            (try simp only [Act.put, List.getElem_toArray, List.getElem_cons_zero, List.getElem_cons_succ, List.setIfInBounds_toArray, List.set_cons_zero, List.set_cons_succ])
            refine wpAnyH_done (by kernel_rfl) ?_ _
            exact ⟨[_, _, _, _, _, _, _, _, _, _, _, _, _, _, _], rfl, (by simp only [putAll, List.setIfInBounds_toArray, List.set_cons_zero, List.set_cons_succ]; rfl), HEND.out⟩
        · skip
          go_simp
          have HA1 := Lib.hid (HA0.out.alloc (.cells #[.string v.name, .int .i64 v.len] 52))
          refine hK.out _ _ HA1.out.bel (fun hHeld => ?_)
          clear hK K
          rename_i hOld
          clear hOld
          (try simp only [Act.put, List.getElem_toArray, List.getElem_cons_zero, List.getElem_cons_succ, List.setIfInBounds_toArray, List.set_cons_zero, List.set_cons_succ])
          generalize hw : World.alloc v0 _ = v1 at hHeld HA1 ⊢
          clear hw
          refine wpAnyH_ready (rs := [0]) (by kernel_rfl) (by simp) (AllReadyH.cons rfl (fun K hK => ?_) AllReadyH.nil)
          go_simp
          have HA2 := Lib.hid HA1.out.start
          refine hK.out _ _ HA2.out.bel (fun hHeld => ?_)
          clear hK K
          rename_i hOld
          clear hOld
          (try simp only [Act.put, List.getElem_toArray, List.getElem_cons_zero, List.getElem_cons_succ, List.setIfInBounds_toArray, List.set_cons_zero, List.set_cons_succ])
          generalize hw : World.alloc v1 _ = v2 at hHeld HA2 ⊢
          clear hw
          refine wpAnyH_ready (rs := [3]) (by kernel_rfl) (by simp) (AllReadyH.cons rfl (fun K hK => ?_) AllReadyH.nil)
          refine step_append_src _ rfl (.tmp 118) (.tmp 120) 22 rfl DS.heap.size 52 tj _ 2 24 Tryd.underlying22 htj jz0 jz1 jz2 rfl (by decide) (.slice (some ⟨v1.heap.size, 0, none⟩) 0 0) 0 [] (by simp [Act.eval]) HA2.out.own (some ⟨sb, so, none⟩) p.shared.length sc (p.shared.flatMap Arr.cells) (by simp [Act.eval]) (HSV.out.below HA2.out.bel) arrs_ones (by unfold maxLen; omega) (by omega) HA2.out.bel.size ?_
          intro r3 v3 hown hgrow hplace
          rw [Nat.zero_add, List.nil_append] at hown
          obtain ⟨ra3, rc3, rfl⟩ := own_val hown
          have HA3 := Lib.hid (HA2.out.grow hown hgrow hplace)
          refine hK.out _ _ HA3.out.bel (fun hHeld => ?_)
          clear hK K hown hgrow hplace
          rename_i hOld
          clear hOld
          (try simp only [Act.put, List.getElem_toArray, List.getElem_cons_zero, List.getElem_cons_succ, List.setIfInBounds_toArray, List.set_cons_zero, List.set_cons_succ])
          refine wpAnyH_ready (rs := [13]) (by kernel_rfl) (by simp) (AllReadyH.cons rfl (fun K hK => ?_) AllReadyH.nil)
          refine step_append_src _ rfl (.tmp 121) (.tmp 130) 22 rfl DS.heap.size 52 tj _ 2 24 Tryd.underlying22 htj jz0 jz1 jz2 rfl (by decide) (.slice ra3 p.shared.length rc3) p.shared.length ((p.shared.flatMap Arr.cells)) (by simp [Act.eval]) HA3.out.own (some ⟨v0.heap.size, 0, none⟩) 1 1 [.string v.name, .int .i64 v.len] (by simp [Act.eval]) (one_src (cs := [.string v.name, .int .i64 v.len]) (n := 1) (HA3.out.blk (v0.heap.size, .cells #[.string v.name, .int .i64 v.len] 52) (by simp)).1 rfl) (by simp [Value.oneCell']) (by unfold maxLen; omega) (by omega) HA3.out.bel.size ?_
          intro r4 v4 hown hgrow hplace
          obtain ⟨ra4, rc4, rfl⟩ := own_val hown
          have HA4 := Lib.hid (HA3.out.grow hown hgrow hplace)
          refine hK.out _ _ HA4.out.bel (fun hHeld => ?_)
          clear hK K hown hgrow hplace
          rename_i hOld
          clear hOld
          (try simp only [Act.put, List.getElem_toArray, List.getElem_cons_zero, List.getElem_cons_succ, List.setIfInBounds_toArray, List.set_cons_zero, List.set_cons_succ])
          refine wpAnyH_take (i := 14) (v := .pointer (some ⟨DS.heap.size, 0, none⟩)) rfl (by kernel_rfl) (by kernel_rfl) (by kernel_rfl) (fun _ _ _ h => h) (Or.inl ⟨by rfl, ?_⟩) (by assumption) ?_
          · intro w' hSw; go_simp
          (try simp only [Act.put, List.getElem_toArray, List.getElem_cons_zero, List.getElem_cons_succ, List.setIfInBounds_toArray, List.set_cons_zero, List.set_cons_succ])
          have b0 := (HA4.out.blk (DS.heap.size, prgObj p (some ⟨sb, so, none⟩) sc (some ⟨tb, tf, none⟩) tc) (by simp)).1
          have f0 := mem_free b0 0
          have f1 := mem_cell b0 0
          have f1 : v4.cell? ⟨DS.heap.size, 0, none⟩ = some (.slice (some ⟨sb, so, none⟩) p.shared.length sc) := f1.trans rfl
          have HEND := Lib.hid (AppSt.put (k := 0) HA4.out (ub := DS.heap.size) (arr := #[.slice (some ⟨sb, so, none⟩) p.shared.length sc, .slice (some ⟨tb, tf, none⟩) p.tasks.length tc]) (T := 25) (show (DS.heap.size, prgObj p (some ⟨sb, so, none⟩) sc (some ⟨tb, tf, none⟩) tc) ∈ _ by simp) (by exact Nat.le_refl _))
          clear b0
          refine wpAnyH_ready (rs := [15]) (by kernel_rfl) (by simp) (AllReadyH.cons rfl (fun K hK => ?_) AllReadyH.nil)
          go_simp
          clear f0 f1
          generalize World.setCell _ _ _ = wS at HEND ⊢
          refine hK.out _ _ ((let ⟨_, _, _, _, h⟩ := HEND.out; h)) (fun hHeld => ?_)
          clear hK K
          rename_i hOld
          clear hOld
          (try simp only [Act.put, List.getElem_toArray, List.getElem_cons_zero, List.getElem_cons_succ, List.setIfInBounds_toArray, List.set_cons_zero, List.set_cons_succ])
          refine wpAnyH_done (by kernel_rfl) ?_ _
          exact ⟨[_, _, _, _, _, _, _, _, _, _, _, _, _, _, _], rfl, (by simp only [putAll, List.setIfInBounds_toArray, List.set_cons_zero, List.set_cons_succ]; rfl), HEND.out⟩
      · rintro a' w3 ⟨l, hl, rfl, A, c, hbx, hown, hBe⟩
        obtain ⟨l0, l1, l2, l3, l4, l5, l6, l7, l8, l9, l10, l11, l12, l13, l14, rfl⟩ := list15 hl
        simp only [putAll, List.setIfInBounds_toArray, List.set_cons_zero, List.set_cons_succ]
        have HOWN : Hid (ArrsAt w3 A (p.shared ++ [v])) := arrs_own (c := c) (by rw [List.length_append, List.flatMap_append]; exact hown) (fun s hs => by
          rcases List.mem_append.1 hs with hs | hs
          · exact HSZ.out s hs
          · obtain rfl := List.mem_singleton.1 hs
            exact HSZ.out _ HVM.out)
        have HBE := Lib.hid hBe
        have HBX3 : Hid (w3.heap[DS.heap.size]? = some (prgObj ⟨p.shared ++ [v], p.tasks⟩ A c (some ⟨tb, tf, none⟩) tc)) := by
          show _ = some (Obj.cells #[.slice A (p.shared ++ [v]).length c, .slice (some ⟨tb, tf, none⟩) p.tasks.length tc] 25)
          rw [List.length_append]
          exact hbx
        clear hl hbx hown hBe
        have b0 := mem_cell HBX3.out 0
        have b1 := mem_cell HBX3.out 1
        simp only [List.getElem?_toArray, List.getElem?_cons_zero, List.getElem?_cons_succ] at b0 b1
        obtain ⟨_, y0, y1, hp3, hg3, hx3, hin3⟩ := HKS.out w3 HBE.out
        obtain ⟨E2, hE2⟩ : ∃ E2 : World, w3.alloc (.cells #[.slice none 0 0] 33) = E2 := ⟨_, rfl⟩
        have hBE2 : Below w3.heap.size w3 E2 := by rw [← hE2]; exact mem_alloc _ _
        have HPS : Hid (PathsAt E2 (some ⟨w3.heap.size, 0, none⟩) [[]]) := ⟨by show 1 ≤ _; omega, fun n hn => by
          have hn : n < 1 := hn
          obtain rfl : n = 0 := by omega
          exact ⟨w3.heap.size, 0, none, 0, rfl, by rw [← hE2]; exact mem_cell (mem_new _ _) 0, IRow.nil⟩⟩
        have HP5 : Hid (PrgAt E2 ⟨p.shared ++ [v], p.tasks⟩ A (some ⟨tb, tf, none⟩)) := PrgAt.below ⟨HOWN.out, hp3.2⟩ hBE2
        have HG5 := Lib.hid (hg3.below hBE2)
        have HB5 : Hid (Below DS.heap.size DS E2) := mem_then HBE.out hBE2
        have HO : Hid (onlyP ⟨p.shared ++ [v], p.tasks⟩ (-1) 8 [[]] = true) := twice_shared HOK.out HVM.out hv2
        clear hBE2 hp3 hg3 hx3 hin3 y0 y1
        go_wp2_with fail
        clear hE2 b0 b1
        have hl9 : (p.shared ++ [v]).length = p.shared.length + 1 := by simp
        have h9 : Calls Tryd.prog 21 #[.agg #[.slice A (p.shared.length + 1) c, .slice (some ⟨tb, tf, none⟩) p.tasks.length tc], .int .i64 (-1), .int .i64 8, .slice (some ⟨w3.heap.size, 0, none⟩) 1 1] E2 fun en w' => en = .returned (.bool (onlyP ⟨p.shared ++ [v], p.tasks⟩ (-1) 8 [[]])) ∧ Below E2.heap.size E2 w' := by
          rw [← hl9]
          exact only_any ⟨p.shared ++ [v], p.tasks⟩ (-1) 8 [[]] E2 A (some ⟨tb, tf, none⟩) (some ⟨w3.heap.size, 0, none⟩) c tc 1 HP5.out HG5.out HPS.out
        refine h9.mono ?_
        clear h9
        rintro e w6 ⟨he, hB6⟩
        rw [HO.out] at he
        subst he
        have HB6 : Hid (Below DS.heap.size DS w6) := mem_then HB5.out hB6
        clear hB6
        go_wp2_with fail
        go_meet
        exact HB6.out
    | false =>
      go_wp2_with fail
      go_meet
      exact Below.refl _ _
  obtain ⟨DT, hDT⟩ : ∃ DT : World, DT = wc := ⟨_, rfl⟩
  rw [← hDT] at hcut ⊢
  clear hDT
  have HBcDT := Lib.hid hcut
  have HKT : Hid (∀ w', Below DT.heap.size DT w' → Below w.heap.size w w' ∧ w'.cell? ⟨w.heap.size, 0, none⟩ = some (.slice sa p.shared.length sc) ∧ w'.cell? ⟨w.heap.size, 1, none⟩ = some (.slice (some ⟨tb, tf, none⟩) p.tasks.length tc) ∧ PrgAt w' p sa (some ⟨tb, tf, none⟩) ∧ SignsIn w' ∧ w'.heap[w2.heap.size]? = some (tskObj t q) ∧ TskIn w' t q) := fun w' h => HKS.out w' (mem_then HBcDT.out h)
  clear hcut
  obtain ⟨tk, htk, kz0, kz1, kz2⟩ := info_parts tsk_info
  have HEND : Hid (Below w.heap.size w DT) := (HKT.out DT (Below.refl _ _)).1
  obtain ⟨_, e0, e1, hpT, hgT, hxT, hinT⟩ := HKT.out DT (Below.refl _ _)
  have HPT := Lib.hid hpT
  have HXT := Lib.hid hxT
  have HINT := Lib.hid hinT
  clear hpT hgT hxT hinT
  by_cases hn : p.tasks.length < 8
  · have hn2 : (p.tasks.length : Int) < 8 := by omega
    obtain ⟨qva, qvc, qaa, qac, qka, qkc⟩ := q
    obtain ⟨E, hE⟩ : ∃ E : World, DT.alloc (prgObj p sa sc (some ⟨tb, tf, none⟩) tc) = E := ⟨_, rfl⟩
    obtain ⟨news, hsrc, hnews, hones⟩ := HPT.out.2.src
    have HCV : Hid (∀ w', Below DT.heap.size DT w' → w'.cell? ⟨w.heap.size, 1, none⟩ = some (.slice (some ⟨tb, tf, none⟩) p.tasks.length tc) ∧ w'.heap[w2.heap.size]? = some (tskObj t ⟨qva, qvc, qaa, qac, qka, qkc⟩)) := fun w' h => by
      obtain ⟨_, _, h1, _, _, h2, _⟩ := HKT.out w' h
      exact ⟨h1, h2⟩
    have HCT : Hid (∀ w', Below DT.heap.size DT w' → w'.cell? ⟨w2.heap.size, 0, none⟩ = some (.string t.name) ∧ w'.cell? ⟨w2.heap.size, 1, none⟩ = some (.int .i64 t.period) ∧ w'.cell? ⟨w2.heap.size, 2, none⟩ = some (.slice qva t.vars.length qvc) ∧ w'.cell? ⟨w2.heap.size, 3, none⟩ = some (.slice qaa t.arrays.length qac) ∧ w'.cell? ⟨w2.heap.size, 4, none⟩ = some (.int .u8 t.body.kind) ∧ w'.cell? ⟨w2.heap.size, 5, none⟩ = some (.int .i64 t.body.num) ∧ w'.cell? ⟨w2.heap.size, 6, none⟩ = some (.string t.body.name) ∧ w'.cell? ⟨w2.heap.size, 7, none⟩ = some (.slice qka t.body.len qkc)) := fun w' h => by
      have hx := (HCV.out w' h).2
      exact ⟨mem_cell hx 0, mem_cell hx 1, mem_cell hx 2, mem_cell hx 3, mem_cell hx 4, mem_cell hx 5, mem_cell hx 6, mem_cell hx 7⟩
    have HSV := Lib.hid hsrc
    have HNEWS := Lib.hid hnews
    have HONES := Lib.hid hones
    have HAtw26 : Hid (AppSt DT [(DT.heap.size, prgObj p sa sc (some ⟨tb, tf, none⟩) tc)] 45 8 (.slice none 0 0) 0 [] E) := by
      show AppSt _ _ _ _ _ _ _ _
      rw [← hE]
      exact AppSt.begin (mem_alloc _ _) (fun x hx => by obtain rfl := List.mem_singleton.1 hx; exact mem_new _ _)
    clear hsrc hnews hones
    go_wp2_with fail
    clear hE e0 e1
    refine cut_runA (RunEnd 143 8 (AppEnd DT DT.heap.size #[.slice sa p.shared.length sc, .slice (some ⟨tb, tf, none⟩) p.tasks.length tc] 25 45 8 1 (p.tasks.length + 1) (news ++ [.string t.name, .int .i64 t.period, .slice qva t.vars.length qvc, .slice qaa t.arrays.length qac, .int .u8 t.body.kind, .int .i64 t.body.num, .string t.body.name, .slice qka t.body.len qkc]))) ?_ ?_
    · skip
      refine wp_region_held_drew (S := fun w' => Below DT.heap.size DT w') (by kernel_rfl) (HAtw26.out.bel.drew) (fun hHeld => ?_)
      have HA0 : Hid (AppSt DT [(DT.heap.size, prgObj p sa sc (some ⟨tb, tf, none⟩) tc)] 45 8 (.slice none 0 0) 0 [] (World.drew _)) := AppSt.begin hHeld (fun x hx => by have := (HAtw26.out.blk x hx).1; exact this)
      generalize hw0 : World.drew _ = v0 at hHeld HA0 ⊢
      clear hw0
      refine wpAnyH_take (i := 1) (v := .pointer (some ⟨w.heap.size, 1, none⟩)) rfl (by kernel_rfl) (by kernel_rfl) (by kernel_rfl) (fun _ _ _ h => h) (Or.inl ⟨by rfl, ?_⟩) (by assumption) ?_
      · intro w' hSw; go_simp
      (try simp only [Act.put, List.getElem_toArray, List.getElem_cons_zero, List.getElem_cons_succ, List.setIfInBounds_toArray, List.set_cons_zero, List.set_cons_succ])
      refine wpAnyH_take (i := 2) (v := .slice (some ⟨tb, tf, none⟩) p.tasks.length tc) rfl (by kernel_rfl) (by kernel_rfl) (by kernel_rfl) (fun _ _ _ h => h) (Or.inl ⟨by rfl, ?_⟩) (by assumption) ?_
      · intro w' hSw; obtain ⟨z1, _⟩ := HCV.out _ hSw; go_simp
      (try simp only [Act.put, List.getElem_toArray, List.getElem_cons_zero, List.getElem_cons_succ, List.setIfInBounds_toArray, List.set_cons_zero, List.set_cons_succ])
      refine wpAnyH_take (i := 4) (v := .agg #[.string t.name, .int .i64 t.period, .slice qva t.vars.length qvc, .slice qaa t.arrays.length qac, .int .u8 t.body.kind, .int .i64 t.body.num, .string t.body.name, .slice qka t.body.len qkc]) rfl (by kernel_rfl) (by kernel_rfl) (by kernel_rfl) (fun _ _ _ h => h) (Or.inl ⟨by rfl, ?_⟩) (by assumption) ?_
      · intro w' hSw; obtain ⟨z0, z1, z2, z3, z4, z5, z6, z7⟩ := HCT.out _ hSw; go_simp
      (try simp only [Act.put, List.getElem_toArray, List.getElem_cons_zero, List.getElem_cons_succ, List.setIfInBounds_toArray, List.set_cons_zero, List.set_cons_succ])
      refine wpAnyH_ready (rs := [0, 5]) (by kernel_rfl) (by simp) (AllReadyH.cons rfl (fun K hK => ?_) (AllReadyH.cons rfl (fun K hK => ?_) AllReadyH.nil))
      · skip
        go_simp
        have HA1 := Lib.hid HA0.out.start
        refine hK.out _ _ HA1.out.bel (fun hHeld => ?_)
        clear hK K
        rename_i hOld
        clear hOld
        (try simp only [Act.put, List.getElem_toArray, List.getElem_cons_zero, List.getElem_cons_succ, List.setIfInBounds_toArray, List.set_cons_zero, List.set_cons_succ])
        generalize hw : World.alloc v0 _ = v1 at hHeld HA1 ⊢
        clear hw
        refine wpAnyH_ready (rs := [3, 5]) (by kernel_rfl) (by simp) (AllReadyH.cons rfl (fun K hK => ?_) (AllReadyH.cons rfl (fun K hK => ?_) AllReadyH.nil))
        · skip
          refine step_append_src _ rfl (.tmp 143) (.tmp 145) 23 rfl DT.heap.size 45 tk _ 8 128 Tryd.underlying23 htk kz0 kz1 kz2 rfl (by decide) (.slice (some ⟨v0.heap.size, 0, none⟩) 0 0) 0 [] (by simp [Act.eval]) HA1.out.own (some ⟨tb, tf, none⟩) p.tasks.length tc news (by simp [Act.eval]) (HSV.out.below HA1.out.bel) HONES.out (by unfold maxLen; omega) (by omega) HA1.out.bel.size ?_
          intro r2 v2 hown hgrow hplace
          rw [Nat.zero_add, List.nil_append] at hown
          obtain ⟨ra2, rc2, rfl⟩ := own_val hown
          have HA2 := Lib.hid (HA1.out.grow hown hgrow hplace)
          refine hK.out _ _ HA2.out.bel (fun hHeld => ?_)
          clear hK K hown hgrow hplace
          rename_i hOld
          clear hOld
          (try simp only [Act.put, List.getElem_toArray, List.getElem_cons_zero, List.getElem_cons_succ, List.setIfInBounds_toArray, List.set_cons_zero, List.set_cons_succ])
          refine wpAnyH_ready (rs := [5]) (by kernel_rfl) (by simp) (AllReadyH.cons rfl (fun K hK => ?_) AllReadyH.nil)
          go_simp
          have HA3 := Lib.hid (HA2.out.alloc (.cells #[.string t.name, .int .i64 t.period, .slice qva t.vars.length qvc, .slice qaa t.arrays.length qac, .int .u8 t.body.kind, .int .i64 t.body.num, .string t.body.name, .slice qka t.body.len qkc] 45))
          refine hK.out _ _ HA3.out.bel (fun hHeld => ?_)
          clear hK K
          rename_i hOld
          clear hOld
          (try simp only [Act.put, List.getElem_toArray, List.getElem_cons_zero, List.getElem_cons_succ, List.setIfInBounds_toArray, List.set_cons_zero, List.set_cons_succ])
          generalize hw : World.alloc v2 _ = v3 at hHeld HA3 ⊢
          clear hw
          refine wpAnyH_ready (rs := [6]) (by kernel_rfl) (by simp) (AllReadyH.cons rfl (fun K hK => ?_) AllReadyH.nil)
          refine step_append_src _ rfl (.tmp 146) (.tmp 148) 23 rfl DT.heap.size 45 tk _ 8 128 Tryd.underlying23 htk kz0 kz1 kz2 rfl (by decide) (.slice ra2 p.tasks.length rc2) p.tasks.length (news) (by simp [Act.eval]) HA3.out.own (some ⟨v2.heap.size, 0, none⟩) 1 1 [.string t.name, .int .i64 t.period, .slice qva t.vars.length qvc, .slice qaa t.arrays.length qac, .int .u8 t.body.kind, .int .i64 t.body.num, .string t.body.name, .slice qka t.body.len qkc] (by simp [Act.eval]) (one_src (cs := [.string t.name, .int .i64 t.period, .slice qva t.vars.length qvc, .slice qaa t.arrays.length qac, .int .u8 t.body.kind, .int .i64 t.body.num, .string t.body.name, .slice qka t.body.len qkc]) (n := 1) (HA3.out.blk (v2.heap.size, .cells #[.string t.name, .int .i64 t.period, .slice qva t.vars.length qvc, .slice qaa t.arrays.length qac, .int .u8 t.body.kind, .int .i64 t.body.num, .string t.body.name, .slice qka t.body.len qkc] 45) (by simp)).1 rfl) (by simp [Value.oneCell']) (by unfold maxLen; omega) (by omega) HA3.out.bel.size ?_
          intro r4 v4 hown hgrow hplace
          obtain ⟨ra4, rc4, rfl⟩ := own_val hown
          have HA4 := Lib.hid (HA3.out.grow hown hgrow hplace)
          refine hK.out _ _ HA4.out.bel (fun hHeld => ?_)
          clear hK K hown hgrow hplace
          rename_i hOld
          clear hOld
          (try simp only [Act.put, List.getElem_toArray, List.getElem_cons_zero, List.getElem_cons_succ, List.setIfInBounds_toArray, List.set_cons_zero, List.set_cons_succ])
          refine wpAnyH_take (i := 7) (v := .pointer (some ⟨DT.heap.size, 1, none⟩)) rfl (by kernel_rfl) (by kernel_rfl) (by kernel_rfl) (fun _ _ _ h => h) (Or.inl ⟨by rfl, ?_⟩) (by assumption) ?_
          · intro w' hSw; go_simp
          (try simp only [Act.put, List.getElem_toArray, List.getElem_cons_zero, List.getElem_cons_succ, List.setIfInBounds_toArray, List.set_cons_zero, List.set_cons_succ])
          have b0 := (HA4.out.blk (DT.heap.size, prgObj p sa sc (some ⟨tb, tf, none⟩) tc) (by simp)).1
          have f0 := mem_free b0 1
          have f1 := mem_cell b0 1
          have f1 : v4.cell? ⟨DT.heap.size, 1, none⟩ = some (.slice (some ⟨tb, tf, none⟩) p.tasks.length tc) := f1.trans rfl
          have HEND := Lib.hid (AppSt.put (k := 1) HA4.out (ub := DT.heap.size) (arr := #[.slice sa p.shared.length sc, .slice (some ⟨tb, tf, none⟩) p.tasks.length tc]) (T := 25) (show (DT.heap.size, prgObj p sa sc (some ⟨tb, tf, none⟩) tc) ∈ _ by simp) (by exact Nat.le_refl _))
          clear b0
          refine wpAnyH_ready (rs := [8]) (by kernel_rfl) (by simp) (AllReadyH.cons rfl (fun K hK => ?_) AllReadyH.nil)
          go_simp
          clear f0 f1
          generalize World.setCell _ _ _ = wS at HEND ⊢
          refine hK.out _ _ ((let ⟨_, _, _, _, h⟩ := HEND.out; h)) (fun hHeld => ?_)
          clear hK K
          rename_i hOld
          clear hOld
          (try simp only [Act.put, List.getElem_toArray, List.getElem_cons_zero, List.getElem_cons_succ, List.setIfInBounds_toArray, List.set_cons_zero, List.set_cons_succ])
          refine wpAnyH_done (by kernel_rfl) ?_ _
          exact ⟨[_, _, _, _, _, _, _, _], rfl, (by simp only [putAll, List.setIfInBounds_toArray, List.set_cons_zero, List.set_cons_succ]; rfl), HEND.out⟩
        · skip
          go_simp
          have HA2 := Lib.hid (HA1.out.alloc (.cells #[.string t.name, .int .i64 t.period, .slice qva t.vars.length qvc, .slice qaa t.arrays.length qac, .int .u8 t.body.kind, .int .i64 t.body.num, .string t.body.name, .slice qka t.body.len qkc] 45))
          refine hK.out _ _ HA2.out.bel (fun hHeld => ?_)
          clear hK K
          rename_i hOld
          clear hOld
          (try simp only [Act.put, List.getElem_toArray, List.getElem_cons_zero, List.getElem_cons_succ, List.setIfInBounds_toArray, List.set_cons_zero, List.set_cons_succ])
          generalize hw : World.alloc v1 _ = v2 at hHeld HA2 ⊢
          clear hw
          refine wpAnyH_ready (rs := [3]) (by kernel_rfl) (by simp) (AllReadyH.cons rfl (fun K hK => ?_) AllReadyH.nil)
          refine step_append_src _ rfl (.tmp 143) (.tmp 145) 23 rfl DT.heap.size 45 tk _ 8 128 Tryd.underlying23 htk kz0 kz1 kz2 rfl (by decide) (.slice (some ⟨v0.heap.size, 0, none⟩) 0 0) 0 [] (by simp [Act.eval]) HA2.out.own (some ⟨tb, tf, none⟩) p.tasks.length tc news (by simp [Act.eval]) (HSV.out.below HA2.out.bel) HONES.out (by unfold maxLen; omega) (by omega) HA2.out.bel.size ?_
          intro r3 v3 hown hgrow hplace
          rw [Nat.zero_add, List.nil_append] at hown
          obtain ⟨ra3, rc3, rfl⟩ := own_val hown
          have HA3 := Lib.hid (HA2.out.grow hown hgrow hplace)
          refine hK.out _ _ HA3.out.bel (fun hHeld => ?_)
          clear hK K hown hgrow hplace
          rename_i hOld
          clear hOld
          (try simp only [Act.put, List.getElem_toArray, List.getElem_cons_zero, List.getElem_cons_succ, List.setIfInBounds_toArray, List.set_cons_zero, List.set_cons_succ])
          refine wpAnyH_ready (rs := [6]) (by kernel_rfl) (by simp) (AllReadyH.cons rfl (fun K hK => ?_) AllReadyH.nil)
          refine step_append_src _ rfl (.tmp 146) (.tmp 148) 23 rfl DT.heap.size 45 tk _ 8 128 Tryd.underlying23 htk kz0 kz1 kz2 rfl (by decide) (.slice ra3 p.tasks.length rc3) p.tasks.length (news) (by simp [Act.eval]) HA3.out.own (some ⟨v1.heap.size, 0, none⟩) 1 1 [.string t.name, .int .i64 t.period, .slice qva t.vars.length qvc, .slice qaa t.arrays.length qac, .int .u8 t.body.kind, .int .i64 t.body.num, .string t.body.name, .slice qka t.body.len qkc] (by simp [Act.eval]) (one_src (cs := [.string t.name, .int .i64 t.period, .slice qva t.vars.length qvc, .slice qaa t.arrays.length qac, .int .u8 t.body.kind, .int .i64 t.body.num, .string t.body.name, .slice qka t.body.len qkc]) (n := 1) (HA3.out.blk (v1.heap.size, .cells #[.string t.name, .int .i64 t.period, .slice qva t.vars.length qvc, .slice qaa t.arrays.length qac, .int .u8 t.body.kind, .int .i64 t.body.num, .string t.body.name, .slice qka t.body.len qkc] 45) (by simp)).1 rfl) (by simp [Value.oneCell']) (by unfold maxLen; omega) (by omega) HA3.out.bel.size ?_
          intro r4 v4 hown hgrow hplace
          obtain ⟨ra4, rc4, rfl⟩ := own_val hown
          have HA4 := Lib.hid (HA3.out.grow hown hgrow hplace)
          refine hK.out _ _ HA4.out.bel (fun hHeld => ?_)
          clear hK K hown hgrow hplace
          rename_i hOld
          clear hOld
          (try simp only [Act.put, List.getElem_toArray, List.getElem_cons_zero, List.getElem_cons_succ, List.setIfInBounds_toArray, List.set_cons_zero, List.set_cons_succ])
          refine wpAnyH_take (i := 7) (v := .pointer (some ⟨DT.heap.size, 1, none⟩)) rfl (by kernel_rfl) (by kernel_rfl) (by kernel_rfl) (fun _ _ _ h => h) (Or.inl ⟨by rfl, ?_⟩) (by assumption) ?_
          · intro w' hSw; go_simp
          (try simp only [Act.put, List.getElem_toArray, List.getElem_cons_zero, List.getElem_cons_succ, List.setIfInBounds_toArray, List.set_cons_zero, List.set_cons_succ])
          have b0 := (HA4.out.blk (DT.heap.size, prgObj p sa sc (some ⟨tb, tf, none⟩) tc) (by simp)).1
          have f0 := mem_free b0 1
          have f1 := mem_cell b0 1
          have f1 : v4.cell? ⟨DT.heap.size, 1, none⟩ = some (.slice (some ⟨tb, tf, none⟩) p.tasks.length tc) := f1.trans rfl
          have HEND := Lib.hid (AppSt.put (k := 1) HA4.out (ub := DT.heap.size) (arr := #[.slice sa p.shared.length sc, .slice (some ⟨tb, tf, none⟩) p.tasks.length tc]) (T := 25) (show (DT.heap.size, prgObj p sa sc (some ⟨tb, tf, none⟩) tc) ∈ _ by simp) (by exact Nat.le_refl _))
          clear b0
          refine wpAnyH_ready (rs := [8]) (by kernel_rfl) (by simp) (AllReadyH.cons rfl (fun K hK => ?_) AllReadyH.nil)
          go_simp
          clear f0 f1
          generalize World.setCell _ _ _ = wS at HEND ⊢
          refine hK.out _ _ ((let ⟨_, _, _, _, h⟩ := HEND.out; h)) (fun hHeld => ?_)
          clear hK K
          rename_i hOld
          clear hOld
          (try simp only [Act.put, List.getElem_toArray, List.getElem_cons_zero, List.getElem_cons_succ, List.setIfInBounds_toArray, List.set_cons_zero, List.set_cons_succ])
          refine wpAnyH_done (by kernel_rfl) ?_ _
          exact ⟨[_, _, _, _, _, _, _, _], rfl, (by simp only [putAll, List.setIfInBounds_toArray, List.set_cons_zero, List.set_cons_succ]; rfl), HEND.out⟩
      · skip
        go_simp
        have HA1 := Lib.hid (HA0.out.alloc (.cells #[.string t.name, .int .i64 t.period, .slice qva t.vars.length qvc, .slice qaa t.arrays.length qac, .int .u8 t.body.kind, .int .i64 t.body.num, .string t.body.name, .slice qka t.body.len qkc] 45))
        refine hK.out _ _ HA1.out.bel (fun hHeld => ?_)
        clear hK K
        rename_i hOld
        clear hOld
        (try simp only [Act.put, List.getElem_toArray, List.getElem_cons_zero, List.getElem_cons_succ, List.setIfInBounds_toArray, List.set_cons_zero, List.set_cons_succ])
        generalize hw : World.alloc v0 _ = v1 at hHeld HA1 ⊢
        clear hw
        refine wpAnyH_ready (rs := [0]) (by kernel_rfl) (by simp) (AllReadyH.cons rfl (fun K hK => ?_) AllReadyH.nil)
        go_simp
        have HA2 := Lib.hid HA1.out.start
        refine hK.out _ _ HA2.out.bel (fun hHeld => ?_)
        clear hK K
        rename_i hOld
        clear hOld
        (try simp only [Act.put, List.getElem_toArray, List.getElem_cons_zero, List.getElem_cons_succ, List.setIfInBounds_toArray, List.set_cons_zero, List.set_cons_succ])
        generalize hw : World.alloc v1 _ = v2 at hHeld HA2 ⊢
        clear hw
        refine wpAnyH_ready (rs := [3]) (by kernel_rfl) (by simp) (AllReadyH.cons rfl (fun K hK => ?_) AllReadyH.nil)
        refine step_append_src _ rfl (.tmp 143) (.tmp 145) 23 rfl DT.heap.size 45 tk _ 8 128 Tryd.underlying23 htk kz0 kz1 kz2 rfl (by decide) (.slice (some ⟨v1.heap.size, 0, none⟩) 0 0) 0 [] (by simp [Act.eval]) HA2.out.own (some ⟨tb, tf, none⟩) p.tasks.length tc news (by simp [Act.eval]) (HSV.out.below HA2.out.bel) HONES.out (by unfold maxLen; omega) (by omega) HA2.out.bel.size ?_
        intro r3 v3 hown hgrow hplace
        rw [Nat.zero_add, List.nil_append] at hown
        obtain ⟨ra3, rc3, rfl⟩ := own_val hown
        have HA3 := Lib.hid (HA2.out.grow hown hgrow hplace)
        refine hK.out _ _ HA3.out.bel (fun hHeld => ?_)
        clear hK K hown hgrow hplace
        rename_i hOld
        clear hOld
        (try simp only [Act.put, List.getElem_toArray, List.getElem_cons_zero, List.getElem_cons_succ, List.setIfInBounds_toArray, List.set_cons_zero, List.set_cons_succ])
        refine wpAnyH_ready (rs := [6]) (by kernel_rfl) (by simp) (AllReadyH.cons rfl (fun K hK => ?_) AllReadyH.nil)
        refine step_append_src _ rfl (.tmp 146) (.tmp 148) 23 rfl DT.heap.size 45 tk _ 8 128 Tryd.underlying23 htk kz0 kz1 kz2 rfl (by decide) (.slice ra3 p.tasks.length rc3) p.tasks.length (news) (by simp [Act.eval]) HA3.out.own (some ⟨v0.heap.size, 0, none⟩) 1 1 [.string t.name, .int .i64 t.period, .slice qva t.vars.length qvc, .slice qaa t.arrays.length qac, .int .u8 t.body.kind, .int .i64 t.body.num, .string t.body.name, .slice qka t.body.len qkc] (by simp [Act.eval]) (one_src (cs := [.string t.name, .int .i64 t.period, .slice qva t.vars.length qvc, .slice qaa t.arrays.length qac, .int .u8 t.body.kind, .int .i64 t.body.num, .string t.body.name, .slice qka t.body.len qkc]) (n := 1) (HA3.out.blk (v0.heap.size, .cells #[.string t.name, .int .i64 t.period, .slice qva t.vars.length qvc, .slice qaa t.arrays.length qac, .int .u8 t.body.kind, .int .i64 t.body.num, .string t.body.name, .slice qka t.body.len qkc] 45) (by simp)).1 rfl) (by simp [Value.oneCell']) (by unfold maxLen; omega) (by omega) HA3.out.bel.size ?_
        intro r4 v4 hown hgrow hplace
        obtain ⟨ra4, rc4, rfl⟩ := own_val hown
        have HA4 := Lib.hid (HA3.out.grow hown hgrow hplace)
        refine hK.out _ _ HA4.out.bel (fun hHeld => ?_)
        clear hK K hown hgrow hplace
        rename_i hOld
        clear hOld
        (try simp only [Act.put, List.getElem_toArray, List.getElem_cons_zero, List.getElem_cons_succ, List.setIfInBounds_toArray, List.set_cons_zero, List.set_cons_succ])
        refine wpAnyH_take (i := 7) (v := .pointer (some ⟨DT.heap.size, 1, none⟩)) rfl (by kernel_rfl) (by kernel_rfl) (by kernel_rfl) (fun _ _ _ h => h) (Or.inl ⟨by rfl, ?_⟩) (by assumption) ?_
        · intro w' hSw; go_simp
        (try simp only [Act.put, List.getElem_toArray, List.getElem_cons_zero, List.getElem_cons_succ, List.setIfInBounds_toArray, List.set_cons_zero, List.set_cons_succ])
        have b0 := (HA4.out.blk (DT.heap.size, prgObj p sa sc (some ⟨tb, tf, none⟩) tc) (by simp)).1
        have f0 := mem_free b0 1
        have f1 := mem_cell b0 1
        have f1 : v4.cell? ⟨DT.heap.size, 1, none⟩ = some (.slice (some ⟨tb, tf, none⟩) p.tasks.length tc) := f1.trans rfl
        have HEND := Lib.hid (AppSt.put (k := 1) HA4.out (ub := DT.heap.size) (arr := #[.slice sa p.shared.length sc, .slice (some ⟨tb, tf, none⟩) p.tasks.length tc]) (T := 25) (show (DT.heap.size, prgObj p sa sc (some ⟨tb, tf, none⟩) tc) ∈ _ by simp) (by exact Nat.le_refl _))
        clear b0
        refine wpAnyH_ready (rs := [8]) (by kernel_rfl) (by simp) (AllReadyH.cons rfl (fun K hK => ?_) AllReadyH.nil)
        go_simp
        clear f0 f1
        generalize World.setCell _ _ _ = wS at HEND ⊢
        refine hK.out _ _ ((let ⟨_, _, _, _, h⟩ := HEND.out; h)) (fun hHeld => ?_)
        clear hK K
        rename_i hOld
        clear hOld
        (try simp only [Act.put, List.getElem_toArray, List.getElem_cons_zero, List.getElem_cons_succ, List.setIfInBounds_toArray, List.set_cons_zero, List.set_cons_succ])
        refine wpAnyH_done (by kernel_rfl) ?_ _
        exact ⟨[_, _, _, _, _, _, _, _], rfl, (by simp only [putAll, List.setIfInBounds_toArray, List.set_cons_zero, List.set_cons_succ]; rfl), HEND.out⟩
    · rintro a' w3 ⟨l, hl, rfl, A, c, hbx, hown, hBe⟩
      obtain ⟨l0, l1, l2, l3, l4, l5, l6, l7, rfl⟩ := list8t hl
      simp only [putAll, List.setIfInBounds_toArray, List.set_cons_zero, List.set_cons_succ]
      have HBE := Lib.hid hBe
      have HOWN : Hid (TsksAt w3 A (p.tasks ++ [t])) := by
        obtain ⟨_, _, _, hp3, _, _, hin3⟩ := HKT.out w3 HBE.out
        refine tsks_own (q := ⟨qva, qvc, qaa, qac, qka, qkc⟩) (news := news) (c := c) hown hp3.2 HSV.out.1 (fun b off j hb hj => ?_) hin3
        cases hb
        have h1 := HNEWS.out j hj
        rw [← h1]
        have hx : j < news.length := by rw [HSV.out.1]; exact hj
        rw [List.getElem?_eq_getElem hx] at h1
        rw [h1]
        exact cell_below HBE.out h1
      have HBX3 : Hid (w3.heap[DT.heap.size]? = some (prgObj ⟨p.shared, p.tasks ++ [t]⟩ sa sc A c)) := by
        show _ = some (Obj.cells #[.slice sa p.shared.length sc, .slice A (p.tasks ++ [t]).length c] 25)
        rw [List.length_append]
        exact hbx
      clear hl hbx hown hBe
      have b0 := mem_cell HBX3.out 0
      have b1 := mem_cell HBX3.out 1
      simp only [List.getElem?_toArray, List.getElem?_cons_zero, List.getElem?_cons_succ] at b0 b1
      obtain ⟨_, y0, y1, hp3, hg3, hx3, hin3⟩ := HKT.out w3 HBE.out
      obtain ⟨E2, hE2⟩ : ∃ E2 : World, w3.alloc (.cells #[.slice none 0 0] 33) = E2 := ⟨_, rfl⟩
      have hBE2 : Below w3.heap.size w3 E2 := by rw [← hE2]; exact mem_alloc _ _
      have HPS : Hid (PathsAt E2 (some ⟨w3.heap.size, 0, none⟩) [[]]) := ⟨by show 1 ≤ _; omega, fun n hn => by
        have hn : n < 1 := hn
        obtain rfl : n = 0 := by omega
        exact ⟨w3.heap.size, 0, none, 0, rfl, by rw [← hE2]; exact mem_cell (mem_new _ _) 0, IRow.nil⟩⟩
      have HP5 : Hid (PrgAt E2 ⟨p.shared, p.tasks ++ [t]⟩ sa A) := PrgAt.below ⟨hp3.1, HOWN.out⟩ hBE2
      have HG5 := Lib.hid (hg3.below hBE2)
      have HB5 : Hid (Below DT.heap.size DT E2) := mem_then HBE.out hBE2
      have HO : Hid (onlyP ⟨p.shared, p.tasks ++ [t]⟩ (p.tasks.length : Int) 8 [[]] = true) := by
        have h := twice_task HOK.out hil hn
        rwa [HT.out] at h
      clear hBE2 hp3 hg3 hx3 hin3 y0 y1
      go_wp2_with fail
      clear hE2 b0 b1
      have hl9 : (p.tasks ++ [t]).length = p.tasks.length + 1 := by simp
      have h9 : Calls Tryd.prog 21 #[.agg #[.slice sa p.shared.length sc, .slice A (p.tasks.length + 1) c], .int .i64 (p.tasks.length : Int), .int .i64 8, .slice (some ⟨w3.heap.size, 0, none⟩) 1 1] E2 fun en w' => en = .returned (.bool (onlyP ⟨p.shared, p.tasks ++ [t]⟩ (p.tasks.length : Int) 8 [[]])) ∧ Below E2.heap.size E2 w' := by
        rw [← hl9]
        exact only_any ⟨p.shared, p.tasks ++ [t]⟩ (p.tasks.length : Int) 8 [[]] E2 sa A (some ⟨w3.heap.size, 0, none⟩) sc c 1 HP5.out HG5.out HPS.out
      refine h9.mono ?_
      clear h9
      rintro e w6 ⟨he, hB6⟩
      rw [HO.out] at he
      subst he
      have HB6 : Hid (Below w.heap.size w w6) := (HKT.out w6 (mem_then HB5.out hB6)).1
      clear hB6
      go_wp2_with fail
      go_ret
      exact ⟨rfl, HB6.out⟩
  · have hn2 : ¬ (p.tasks.length : Int) < 8 := by omega
    go_wp2_with fail
    go_ret
    exact ⟨rfl, HEND.out⟩
end Go.Proofs.YtnegdmhmhdojbaaDoor
