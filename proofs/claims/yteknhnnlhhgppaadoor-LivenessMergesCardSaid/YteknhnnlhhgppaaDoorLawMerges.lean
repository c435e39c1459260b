/-
  LivenessMerges (package ontimelaw19): two registers that do not interfere can share one place.
-/
import Derived.Test.YteknhnnlhhgppaaDoorBehave
import Derived.Test.YteknhnnlhhgppaaDoorMg47
import Derived.Test.YteknhnnlhhgppaaDoorMg39
import Derived.Test.YteknhnnlhhgppaaDoorMg44
import Derived.Test.YteknhnnlhhgppaaDoorLawSets
import Derived.Deep.RegionHeld3
import Derived.Deep.DeepCutAuto
namespace Go.Proofs.YteknhnnlhhgppaaDoor
set_option linter.unusedVariables false
set_option linter.unusedSimpArgs false
open Go.RowKit
set_option maxRecDepth 100000
set_option maxHeartbeats 16000000

theorem two_drew (w : World) (o p : Obj) : ((w.alloc o).alloc p).drew.heap[w.heap.size]? = some o ∧ ((w.alloc o).alloc p).drew.heap[w.heap.size + 1]? = some p ∧ Below w.heap.size w ((w.alloc o).alloc p).drew :=
  ⟨mem_old1 w o p, mem_new1 w o p, (((Below.refl _ _).alloc (Nat.le_refl _) _).alloc (by simp) _).drew⟩
theorem merges_any (f : Fn) (shared : List (ByteArray × Int)) (arrays objects : List (List Int)) (inp : List Int) (aa ba sa ara oba ia : Option Addr) (ac bc sc arc obc ic : Nat) (x y : Int) (w : World) (hf : FnAt w f aa ba) (hc : CallAt w shared arrays objects inp sa ara oba ia) (hz : CallSz shared arrays objects)
    (hx : 0 ≤ x ∧ x ≤ 255) (hy : 0 ≤ y ∧ y ≤ 255) (hT : TabAt 0 Lib.deBruijn64tab w) :
    Calls Tryd.prog 7 #[callV f aa ac ba bc shared arrays objects inp sa sc ara arc oba obc ia ic, .int .u8 x, .int .u8 y] w fun e w' => e = .returned (.bool true) ∧ Below w.heap.size w w' := by
  have HF := Lib.hid hf
  have HC := Lib.hid hc
  have HZ := Lib.hid hz
  have HT := Lib.hid hT
  obtain ⟨n, hn⟩ : ∃ n, f.blocks.length = n := ⟨_, rfl⟩
  have HN := Lib.hid hn
  obtain ⟨W, hW⟩ : ∃ W : World, w.alloc (.cells #[.string f.name, .int .i64 f.regs, .slice aa f.arrays.length ac, .slice ba n bc, .slice sa shared.length sc, .slice ara arrays.length arc, .slice oba objects.length obc, .slice ia inp.length ic] 68) = W := ⟨_, rfl⟩
  have HBW : Hid (Below w.heap.size w W) := by show Below _ _ _; rw [← hW]; exact mem_alloc _ _
  have HX : Hid (W.heap[w.heap.size]? = some (.cells #[.string f.name, .int .i64 f.regs, .slice aa f.arrays.length ac, .slice ba n bc, .slice sa shared.length sc, .slice ara arrays.length arc, .slice oba objects.length obc, .slice ia inp.length ic] 68)) := by
    show _ = _
    rw [← hW]
    exact mem_new _ _
  have HXC : Hid (∀ w', Below W.heap.size W w' → (w'.cell? ⟨w.heap.size, 0, none⟩ = some (.string f.name) ∧ w'.cell? ⟨w.heap.size, 1, none⟩ = some (.int .i64 f.regs) ∧ w'.cell? ⟨w.heap.size, 2, none⟩ = some (.slice aa f.arrays.length ac) ∧ w'.cell? ⟨w.heap.size, 3, none⟩ = some (.slice ba n bc)) ∧ Below w.heap.size w w' ∧ FnAt w' f aa ba) := fun w' h => by
    have h9 := mem_keep HX.out h
    have h7 := mem_then HBW.out h
    exact ⟨⟨cell_heap h9 0, cell_heap h9 1, cell_heap h9 2, cell_heap h9 3⟩, h7, HF.out.below h7⟩
  have HXD : Hid (∀ w', Below W.heap.size W w' → (w'.cell? ⟨w.heap.size, 4, none⟩ = some (.slice sa shared.length sc) ∧ w'.cell? ⟨w.heap.size, 5, none⟩ = some (.slice ara arrays.length arc) ∧ w'.cell? ⟨w.heap.size, 6, none⟩ = some (.slice oba objects.length obc) ∧ w'.cell? ⟨w.heap.size, 7, none⟩ = some (.slice ia inp.length ic)) ∧ CallAt w' shared arrays objects inp sa ara oba ia) := fun w' h => by
    have h9 := mem_keep HX.out h
    exact ⟨⟨cell_heap h9 4, cell_heap h9 5, cell_heap h9 6, cell_heap h9 7⟩, HC.out.below (mem_then HBW.out h)⟩
  obtain ⟨⟨x0, x1, x2, x3⟩, _, _⟩ := HXC.out W (Below.refl _ _)
  have QS : Hid (∀ w', FnAt w' f aa ba → Calls Tryd.prog 20 #[.agg #[.string f.name, .int .i64 f.regs, .slice aa f.arrays.length ac, .slice ba n bc]] w' (Tells (SmallF f ∧ FormF f) w')) := fun w' h => by
    have h9 := formLaw_any f aa ba ac bc w' h
    rw [HN.out] at h9
    exact h9
  unfold callV
  rw [hn]
  clear hf hT hn hc hz
  go_enter Tryd.func7, Tryd.ntmps7
  go_wp2_with fail
  clear hW x0 x1 x2 x3
  refine (awake_any _ (tab_keep HT.out HBW.out)).mono ?_
  rintro e w1 ⟨rfl, hB1⟩
  have HB1 := Lib.hid hB1
  obtain ⟨⟨x0, x1, x2, x3⟩, hbf, hfn⟩ := HXC.out w1 hB1
  have HBF1 := Lib.hid hbf
  have HFN1 := Lib.hid hfn
  clear hB1 hbf hfn
  go_wp2_with fail
  clear x0 x1 x2 x3
  refine (QS.out _ HFN1.out).mono ?_
  rintro e w2 ⟨r, rfl, hr, hB2⟩
  have HR := Lib.hid hr
  have HB2 : Hid (Below W.heap.size W w2) := below_step HB1.out hB2
  obtain ⟨⟨x0, x1, x2, x3⟩, hbf, hfn⟩ := HXC.out w2 HB2.out
  have HBF2 := Lib.hid hbf
  have HFN2 := Lib.hid hfn
  clear hr hB2 hbf hfn
  cases r with
  | false =>
    go_wp2_with fail
    refine (awake_any _ (tab_keep HT.out HBF2.out)).mono ?_
    rintro e w3 ⟨rfl, hB3⟩
    have HB3 : Hid (Below w.heap.size w w3) := below_step HBF2.out hB3
    clear hB3
    go_wp2_with fail
    go_ret
    exact ⟨rfl, HB3.out⟩
  | true =>
    have HSM := Lib.hid (HR.out.1 rfl).1
    have HFM := Lib.hid (HR.out.1 rfl).2
    have HFIT := Lib.hid (small_fits HSM.out)
    obtain ⟨R, hR⟩ : ∃ R : Nat, f.regs = (R : Int) := ⟨f.regs.toNat, (Int.toNat_of_nonneg HFM.out.r0).symm⟩
    have hR12 : R ≤ 12 := by have := HSM.out.rg; omega
    simp only [hR] at HX HXC ⊢
    have HREG := Lib.hid hR
    have HR12 := Lib.hid hR12
    have HFR : Hid (FormR f R) := by
      have h9 := HFM.out.small HSM.out.rg
      rw [hR, Int.toNat_natCast] at h9
      exact h9
    simp only [hR] at x1
    by_cases hR0 : R = 0
    · subst hR0
      go_wp2_with fail
      refine (awake_any _ (tab_keep HT.out HBF2.out)).mono ?_
      rintro e w3 ⟨rfl, hB3⟩
      have HB3 : Hid (Below w.heap.size w w3) := below_step HBF2.out hB3
      clear hB3
      go_wp2_with fail
      go_ret
      exact ⟨rfl, HB3.out⟩
    have QI : Hid (∀ w', FnAt w' f aa ba → Below w.heap.size w w' → Calls Tryd.prog 29 #[.agg #[.string f.name, .int .i64 (R : Int), .slice aa f.arrays.length ac, .slice ba n bc]] w' (InterEnd f R w')) := fun w' h hB => by
      have h9 := inter_any f R aa ba ac bc w' h HFM.out HREG.out HR12.out HFIT.out.1 HFIT.out.2 (tab_keep HT.out hB)
      rw [HREG.out, HN.out] at h9
      exact h9
    have QCP : Hid (∀ w', FnAt w' f aa ba → Calls Tryd.prog 25 #[.agg #[.string f.name, .int .i64 (R : Int), .slice aa f.arrays.length ac, .slice ba n bc]] w' fun e w'' => ∃ (g bc' : Nat) (l : List BlkP), e = .returned (fnVal f.name (R : Int) aa f.arrays.length ac (some ⟨g, 0, none⟩) n bc') ∧
        BlkOwn w'.heap.size 43 54 w'' (.slice (some ⟨g, 0, none⟩) n bc') l ∧ l.map (·.blk) = f.blocks ∧ Below w'.heap.size w' w'') := fun w' h => by
      have h9 := copied19_any f aa ba ac bc w' h HFM.out.one (by have := HFIT.out.1; omega) HFIT.out.2
      rw [HREG.out, HN.out] at h9
      exact h9
    have hn0 : 0 < n := by have := HFM.out.one; have := HN.out; omega
    have HN0 := Lib.hid hn0
    have hnb : n ≤ 1000 := by have := HFIT.out.1; have := HN.out; omega
    have HNB := Lib.hid hnb
    have HRP : Hid (0 < R) := by show _ < _; omega
    have e0 : ((R : Int) == 0) = false := by simp; omega
    have e0' : decide ((R : Int) = 0) = false := by simp; omega
    have hRp : (0 : Int) < (R : Int) := by omega
    obtain ⟨a, ha⟩ : ∃ a : Nat, x % (R : Int) = (a : Int) := ⟨(x % (R : Int)).toNat, by have := Int.emod_nonneg x (b := (R : Int)) (by omega); omega⟩
    obtain ⟨b, hb⟩ : ∃ b : Nat, y % (R : Int) = (b : Int) := ⟨(y % (R : Int)).toNat, by have := Int.emod_nonneg y (b := (R : Int)) (by omega); omega⟩
    have haR : a < R := by have := Int.emod_lt_of_pos x hRp; omega
    have hbR : b < R := by have := Int.emod_lt_of_pos y hRp; omega
    have hxm : x.tmod (R : Int) = (a : Int) := by rw [Int.tmod_eq_emod_of_nonneg hx.1]; exact ha
    have hym : y.tmod (R : Int) = (b : Int) := by rw [Int.tmod_eq_emod_of_nonneg hy.1]; exact hb
    have hwx : IntKind.i64.wrap x = x := by rw [IntKind.wrap_i64]; omega
    have hwy : IntKind.i64.wrap y = y := by rw [IntKind.wrap_i64]; omega
    have hrne : (R : Int) ≠ 0 := by omega
    have HAB : Hid (a < R ∧ b < R) := ⟨haR, hbR⟩
    clear hR hR0 ha hb
    go_upto_region 3 with fail
    obtain ⟨V2, hV2⟩ : ∃ V : World, V = w2 := ⟨_, rfl⟩
    subst hV2
    go_cut [7, 8] (fun s1 s2 w' => ∃ ab bb, s1 = .pointer (some ⟨ab, 0, none⟩) ∧ s2 = .pointer (some ⟨bb, 0, none⟩) ∧ w'.heap[ab]? = some (.cells #[.int .i64 (a : Int)] 3) ∧ w'.heap[bb]? = some (.cells #[.int .i64 (b : Int)] 3) ∧ Below V2.heap.size V2 w')
    case first =>
      have hlt : w.heap.size < V2.heap.size := World.block_lt_of_cell? V2 _ x1
      go_region
      all_goals
        go_wp2_with fail
        go_meet
        first
          | exact ⟨_, _, rfl, rfl, (two_drew _ _ _).1, (two_drew _ _ _).2.1, (two_drew _ _ _).2.2⟩
          | exact ⟨_, _, rfl, rfl, (two_drew _ _ _).2.1, (two_drew _ _ _).1, (two_drew _ _ _).2.2⟩
    case rest =>
      obtain ⟨ab, bb, rfl, rfl, hab, hbb, hB3⟩ := hcut
      obtain ⟨w3, hw3⟩ : ∃ G : World, G = wc := ⟨_, rfl⟩
      subst hw3
      have KAB : Hid (∀ w', Below w3.heap.size w3 w' → w'.cell? ⟨ab, 0, none⟩ = some (.int .i64 (a : Int)) ∧ w'.cell? ⟨bb, 0, none⟩ = some (.int .i64 (b : Int))) := fun w' h => ⟨mem_cell (mem_keep hab h) 0, mem_cell (mem_keep hbb h) 0⟩
      have HB3 : Hid (Below W.heap.size W w3) := mem_then HB2.out hB3
      clear x0 x1 x2 x3 hab hbb hB3 hxm hym hwx hwy e0 e0'
      obtain ⟨⟨x0, x1, x2, x3⟩, hbf, hfn⟩ := HXC.out w3 HB3.out
      have HBF3 := Lib.hid hbf
      have HFN3 := Lib.hid hfn
      clear hbf hfn
      go_wp2_with fail
      clear x0 x1 x2 x3
      refine (QI.out _ HFN3.out HBF3.out).mono ?_
      rintro e w4 ⟨lv, lins, louts, lrows, lss, rfl, hlr, hll, hlm, hlsol, hlb, hl12, hB4⟩
      have HLSOL := Lib.hid hlsol
      have h1 : lrows.length = R := by have := congrArg List.length hlm; simp only [List.length_map] at this; omega
      have HLL := Lib.hid hll
      have HLI : Hid (RowsI w4 lv (lss.map listB)) := by
        have h9 := hlr.rowsI (by rw [h1]; have := HR12.out; omega) (fun p hp => by
          have h3 : p.2 ∈ lrows.map (·.2) := List.mem_map_of_mem hp
          rw [hlm] at h3
          obtain ⟨s, _, hs⟩ := List.mem_map.1 h3
          rw [← hs]
          have := list_len s
          omega)
        rwa [hlm] at h9
      obtain ⟨la, lc, rfl⟩ : ∃ a c, lv = .slice a R c := by
        obtain ⟨a9, c9, h9⟩ := hlr.val
        exact ⟨a9, c9, by rw [h9, h1]⟩
      obtain ⟨lg, lo, rfl⟩ : ∃ g o, la = some ⟨g, o, none⟩ := by
        obtain ⟨_, a9, c9, e9, h9⟩ := HLI.out
        rcases h9 with h9 | ⟨g, o, e8, _⟩
        · rw [List.length_map, hll] at h9
          have := HRP.out
          omega
        · injection e9 with e9 _ _
          exact ⟨g, o, by rw [e9, e8]⟩
      have HROW : Hid (∀ r, r < R → ∀ w', Below w4.heap.size w4 w' → ∃ u, w'.cell? ⟨lg, lo + r, none⟩ = some u ∧ IntsAt w' u (listB (lss.getD r 0)) ∧ (listB (lss.getD r 0)).length ≤ 1000000) := fun r hr w' h => by
        obtain ⟨_, a9, c9, e9, h9⟩ := HLI.out
        injection e9 with e9 _ _
        rcases h9 with h9 | ⟨g, o, e8, h9⟩
        · rw [List.length_map, HLL.out] at h9; omega
        · rw [← e9] at e8
          cases e8
          have hg : (lss.map listB)[r]? = some (listB (lss.getD r 0)) := by
            rw [List.getElem?_map, List.getD_eq_getElem?_getD, List.getElem?_eq_getElem (by rw [HLL.out]; exact hr)]
            rfl
          obtain ⟨h7, u, h8, h6⟩ := h9 r _ hg
          exact ⟨u, cell_below h h8, h6.below h, h7⟩
      have HMEM : Hid (∀ r c : Nat, r < R → ((c : Int) ∈ listB (lss.getD r 0) ↔ SymP (DefS f louts f.blocks.length 0) R r c)) := fun r c hr => by
        rw [← hlb r c hr]
        refine mem_list ?_
        have h9 : lss.getD r 0 ∈ lss := by
          rw [List.getD_eq_getElem?_getD, List.getElem?_eq_getElem (by rw [HLL.out]; exact hr)]
          exact List.getElem_mem _
        have h8 := hl12 _ h9
        have h7 : 2 ^ R ≤ 2 ^ 12 := Nat.pow_le_pow_right (by decide) HR12.out
        omega
      have HOUT : Hid (∀ k, louts.getD k 0 < 2 ^ R) := hlsol.bo
      have HB4 : Hid (Below w3.heap.size w3 w4) := hB4
      have HBW4 : Hid (Below W.heap.size W w4) := mem_then HB3.out hB4
      obtain ⟨⟨x0, x1, x2, x3⟩, hbf, hfn⟩ := HXC.out w4 HBW4.out
      have HBF4 := Lib.hid hbf
      have HFN4 := Lib.hid hfn
      clear hbf hfn h1 hll hlm hlr hlsol hlb hl12 hB4
      obtain ⟨f1, f2⟩ := KAB.out w4 HB4.out
      have haI : (a : Int) < (R : Int) := by omega
      have hbI : (b : Int) < (R : Int) := by omega
      have ha0 : (0 : Int) ≤ (a : Int) := by omega
      have hb0 : (0 : Int) ≤ (b : Int) := by omega
      obtain ⟨u, hu, hui, hul⟩ := HROW.out a haR w4 (Below.refl _ _)
      obtain ⟨La, hLa⟩ : ∃ L, listB (lss.getD a 0) = L := ⟨_, rfl⟩
      rw [hLa] at hui hul
      have HLa := Lib.hid hLa
      clear hLa
      have HUI := Lib.hid hui
      obtain ⟨ua, uc, rfl, _⟩ := hui
      by_cases hs : SymP (DefS f louts f.blocks.length 0) R a b
      · have QC : Hid (∀ k, Calls Tryd.prog 26 #[.slice ua La.length uc, .int .i64 (b : Int)] (World.drewN w4 k) (fun e w'' => e = .returned (.bool true) ∧ ∃ m, w'' = w4.drewN m)) := fun k => by
          refine (contains_any' La (b : Int) (.slice ua La.length uc) (World.drewN w4 k) (HUI.out.below (below_drew ⟨k, rfl⟩)) hul).mono ?_
          rintro e w'' ⟨h1, m, h2⟩
          rw [h1, decide_eq_true (HLa.out ▸ (HMEM.out a b haR).2 hs)]
          exact ⟨rfl, k + m, by rw [h2, drewN_add]⟩
        go_wp2_with fail
        go_quiet (first | (go_at_call 26; with_reducible exact QC.out _))
        generalize hV : World.drewN w4 _ = V5
        have HD5 : Hid (∃ m, V5 = World.drewN w4 m) := ⟨_, hV.symm⟩
        have HB5 : Hid (Below w4.heap.size w4 V5) := below_drew HD5.out
        clear hV f1 f2 hu hul x0 x1 x2 x3 QC HUI
        obtain ⟨f1, f2⟩ := KAB.out V5 (mem_then HB4.out HB5.out)
        obtain ⟨u, hu, hui, hul⟩ := HROW.out b hbR V5 HB5.out
        obtain ⟨Lb, hLb⟩ : ∃ L, listB (lss.getD b 0) = L := ⟨_, rfl⟩
        rw [hLb] at hui hul
        have HLb := Lib.hid hLb
        clear hLb
        have HUI := Lib.hid hui
        obtain ⟨ua, uc, rfl, _⟩ := hui
        have hne : a ≠ b := sym_ne haR hs
        have q1 : ((a : Int) != (b : Int)) = true := by simp; omega
        have q2 : decide ((a : Int) ≠ (b : Int)) = true := by simp; omega
        have q3 : ((a : Int) == (b : Int)) = false := by simp; omega
        have QC : Hid (∀ k, Calls Tryd.prog 26 #[.slice ua Lb.length uc, .int .i64 (a : Int)] (World.drewN V5 k) (fun e w'' => e = .returned (.bool true) ∧ ∃ m, w'' = V5.drewN m)) := fun k => by
          refine (contains_any' Lb (a : Int) (.slice ua Lb.length uc) (World.drewN V5 k) (HUI.out.below (below_drew ⟨k, rfl⟩)) hul).mono ?_
          rintro e w'' ⟨h1, m, h2⟩
          rw [h1, decide_eq_true (HLb.out ▸ (HMEM.out b a hbR).2 (sym_swap haR hbR hs))]
          exact ⟨rfl, k + m, by rw [h2, drewN_add]⟩
        have HBE : Hid (Below w.heap.size w V5) := mem_then HBF4.out HB5.out
        clear hs hne
        go_wp2_with fail
        go_quiet (first | (go_at_call 26; with_reducible exact QC.out _))
        generalize hV : World.drewN V5 _ = V6
        have HB6 : Hid (Below w.heap.size w V6) := mem_then HBE.out (below_drew ⟨_, hV.symm⟩)
        clear hV f1 f2 hu hul
        go_wp2_with fail
        go_ret
        exact ⟨rfl, HB6.out⟩
      · have QC : Hid (∀ k, Calls Tryd.prog 26 #[.slice ua La.length uc, .int .i64 (b : Int)] (World.drewN w4 k) (fun e w'' => e = .returned (.bool false) ∧ ∃ m, w'' = w4.drewN m)) := fun k => by
          refine (contains_any' La (b : Int) (.slice ua La.length uc) (World.drewN w4 k) (HUI.out.below (below_drew ⟨k, rfl⟩)) hul).mono ?_
          rintro e w'' ⟨h1, m, h2⟩
          rw [h1, decide_eq_false (fun h => hs ((HMEM.out a b haR).1 (HLa.out ▸ h)))]
          exact ⟨rfl, k + m, by rw [h2, drewN_add]⟩
        have HNO : Hid (NoInt f R louts (a : Int) (b : Int)) := noInt_of HFR.out HOUT.out haR hbR (.inr hs)
        go_wp2_with fail
        go_quiet (first | (go_at_call 26; with_reducible exact QC.out _))
        generalize hV : World.drewN w4 _ = V5
        have HD5 : Hid (∃ m, V5 = World.drewN w4 m) := ⟨_, hV.symm⟩
        have HB5 : Hid (Below w4.heap.size w4 V5) := below_drew HD5.out
        clear hV f1 f2 hu hul x0 x1 x2 x3 QC HUI hs HROW HMEM HOUT
        have HBW5 : Hid (Below W.heap.size W V5) := mem_then HBW4.out HB5.out
        obtain ⟨⟨x0, x1, x2, x3⟩, hbf, hfn⟩ := HXC.out V5 HBW5.out
        have HBF5 := Lib.hid hbf
        have HFN5 := Lib.hid hfn
        clear hbf hfn
        go_wp2_with fail
        clear x0 x1 x2 x3
        refine (QCP.out _ HFN5.out).mono ?_
        rintro e w6 ⟨g, bc', l0, rfl, hown6, hl0, hB6⟩
        obtain ⟨V6, hV6⟩ : ∃ V6 : World, w6.alloc (.cells #[.string f.name, .int .i64 (R : Int), .slice aa f.arrays.length ac, .slice (some ⟨g, 0, none⟩) n bc'] 25) = V6 := ⟨_, rfl⟩
        have HBV6 : Hid (Below w6.heap.size w6 V6) := by show Below _ _ _; rw [← hV6]; exact mem_alloc _ _
        have hG6 : V6.heap[w6.heap.size]? = some (.cells #[.string f.name, .int .i64 (R : Int), .slice aa f.arrays.length ac, .slice (some ⟨g, 0, none⟩) n bc'] 25) := by rw [← hV6]; exact mem_new _ _
        have HM6 : Hid (∃ ca cc, MgAt V5 w6.heap.size g n bc' #[.string f.name, .int .i64 (R : Int), .slice aa f.arrays.length ac, .slice (some ⟨g, 0, none⟩) n bc'] V6 (turnTo (a : Int) (b : Int) 0 f.blocks) 0 ca cc) := by
          have hll : l0.length = n := by have := congrArg List.length hl0; rw [List.length_map] at this; rw [this, HN.out]
          refine ⟨_, _, mem_then hB6 HBV6.out, hG6, l0, hown6.keep HBV6.out, ?_, ?_, l0[0]'(by rw [hll]; exact HN0.out), List.getElem?_eq_getElem _, rfl, rfl⟩
          · rw [hl0]; rfl
          · show (List.map _ _ ++ _).length = n
            rw [part_len, HN.out]
        have KG : Hid (∀ wr L k ca cc, MgAt V5 w6.heap.size g n bc' #[.string f.name, .int .i64 (R : Int), .slice aa f.arrays.length ac, .slice (some ⟨g, 0, none⟩) n bc'] wr L k ca cc → (wr.cell? ⟨w6.heap.size, 0, none⟩ = some (.string f.name) ∧ wr.cell? ⟨w6.heap.size, 1, none⟩ = some (.int .i64 (R : Int)) ∧ wr.cell? ⟨w6.heap.size, 2, none⟩ = some (.slice aa f.arrays.length ac) ∧ wr.cell? ⟨w6.heap.size, 3, none⟩ = some (.slice (some ⟨g, 0, none⟩) n bc')) ∧
            (wr.cell? ⟨ab, 0, none⟩ = some (.int .i64 (a : Int)) ∧ wr.cell? ⟨bb, 0, none⟩ = some (.int .i64 (b : Int))) ∧ Below W.heap.size W wr) := fun wr L k ca cc h =>
          ⟨⟨mem_cell h.box 0, mem_cell h.box 1, mem_cell h.box 2, mem_cell h.box 3⟩, KAB.out _ (mem_then (mem_then HB4.out HB5.out) h.low), mem_then HBW5.out h.low⟩
        obtain ⟨ca6, cc6, hm6⟩ := HM6.out
        obtain ⟨⟨y0, y1, y2, y3⟩, _, _⟩ := KG.out _ _ _ _ _ hm6
        clear hown6 hl0 hB6 HBV6 hm6 hG6
        go_wp2_with fail
        clear hV6 y0 y1 y2 y3
        go_loopw [86] (fun iv wr => ∃ k : Nat, k ≤ n ∧ iv = .int .i64 (k : Int) ∧ ∃ ca cc, MgAt V5 w6.heap.size g n bc' #[.string f.name, .int .i64 (R : Int), .slice aa f.arrays.length ac, .slice (some ⟨g, 0, none⟩) n bc'] wr (turnTo (a : Int) (b : Int) k f.blocks) 0 ca cc) (fun iv _ => n - (intOf iv).toNat)
        case atStart => exact ⟨0, Nat.zero_le _, rfl, HM6.out⟩
        case round =>
          clear HM6
          obtain ⟨k, hk, rfl, ca0, cc0, hmg⟩ := hrel
          have HMG0 := Lib.hid hmg
          have hk0 : (0 : Int) ≤ (k : Int) := by omega
          obtain ⟨⟨y0, y1, y2, y3⟩, _, hbw⟩ := KG.out _ _ _ _ _ hmg
          clear hmg hbw
          by_cases hlt : k < n
          · have hlt2 : (k : Int) < (n : Int) := by omega
            have HKF : Hid (k < f.blocks.length) := by show _ < _; rw [HN.out]; exact hlt
            obtain ⟨q, hq⟩ : ∃ q, f.blocks[k]? = some q := ⟨_, List.getElem?_eq_getElem HKF.out⟩
            have HQ := Lib.hid hq
            obtain ⟨ca, cc, hmg⟩ := HMG0.out.to hlt
            rw [turn_start hq] at hmg
            have HMG := Lib.hid hmg
            have HCL := Lib.hid (HFIT.out.2 q (List.mem_of_getElem? hq))
            have HAT : Hid (a < R ∧ b < R) := HAB
            obtain ⟨z0, z1, z2, zf, _⟩ := hmg.head HKF.out
            have HCLEN : Hid (∀ j, (turnCode (a : Int) (b : Int) j q.code).length = q.code.length) := fun j => part_len
            simp only [HCLEN.out] at z0
            obtain ⟨len, hlen⟩ : ∃ l, q.code.length = l := ⟨_, rfl⟩
            have HLEN := Lib.hid hlen
            rw [hlen] at z0
            have hlen9 : len ≤ 1000000 := by have := HCL.out; omega
            clear hq hmg hlen zf z1 z2
            go_wp2_with fail
            clear y0 y1 y2 y3 z0 HMG0
            obtain ⟨wo, hwo⟩ : ∃ wo : World, wo = wr := ⟨_, rfl⟩
            rw [← hwo] at HMG ⊢
            clear hwo
            go_loopw [96] (fun iv wr => ∃ m : Nat, m ≤ len ∧ iv = .int .i64 (m : Int) ∧ MgAt V5 w6.heap.size g n bc' #[.string f.name, .int .i64 (R : Int), .slice aa f.arrays.length ac, .slice (some ⟨g, 0, none⟩) n bc'] wr ((turnTo (a : Int) (b : Int) k f.blocks).set k { q with code := turnCode (a : Int) (b : Int) m q.code }) k ca cc) (fun iv _ => len - (intOf iv).toNat)
            case atStart => exact ⟨0, Nat.zero_le _, rfl, HMG.out⟩
            case round =>
              clear HMG
              obtain ⟨m, hm, rfl, hmg⟩ := hrel
              have HMG := Lib.hid hmg
              have hm0 : (0 : Int) ≤ (m : Int) := by omega
              obtain ⟨⟨y0, y1, y2, y3⟩, _, _⟩ := KG.out _ _ _ _ _ hmg
              obtain ⟨z0, z1, z2, zf, hqw⟩ := hmg.head HKF.out
              simp only [HCLEN.out, HLEN.out] at z0
              clear hmg
              by_cases hml : m < len
              · have hml2 : (m : Int) < (len : Int) := by omega
                clear z1 z2 zf hqw
                obtain ⟨i, hi⟩ : ∃ i, q.code[m]? = some i := ⟨_, List.getElem?_eq_getElem (by rw [HLEN.out]; exact hml)⟩
                have HI := Lib.hid hi
                obtain ⟨cb, rfl⟩ := HMG.out.code HKF.out (m := m) (by show m < (turnCode (a : Int) (b : Int) m q.code).length; rw [HCLEN.out, HLEN.out]; exact hml)
                have HML : Hid (m < (turnCode (a : Int) (b : Int) m q.code).length) := by show _ < _; rw [HCLEN.out, HLEN.out]; exact hml
                have hmg := HMG.out
                rw [← code_same hi] at hmg
                obtain ⟨iop, idst, ix, iy, imm, sym⟩ := i
                have HMG := Lib.hid hmg
                have HWF := Lib.hid (hmg.six HKF.out HML.out).2.2
                obtain ⟨⟨c0, c1, c2, c3, c4, c5⟩, cf, _⟩ := hmg.six HKF.out HML.out
                clear hi hmg
                go_wp2_with fail
                clear y0 y1 y2 y3 z0 c0 c1 c2 c3 c4 c5 cf
                refine (uses_any ⟨iop, idst, ix, iy, imm, sym⟩ _).mono ?_
                rintro e w7 ⟨uv, rfl, huv, hB7⟩
                have HMG7 := Lib.hid (HMG.out.keep hB7)
                obtain ⟨ua, uc, rfl, _⟩ := huv.at_
                obtain ⟨⟨c0, c1, c2, c3, c4, c5⟩, cf, _⟩ := HMG7.out.six HKF.out HML.out
                clear huv hB7 HMG
                obtain ⟨u, hu⟩ : ∃ u, (⟨iop, idst, ix, iy, imm, sym⟩ : Ins).uses.length = u := ⟨_, rfl⟩
                have HU := Lib.hid hu
                have hu2 : u ≤ 2 := by rw [← hu]; exact uses_two _
                rw [hu]
                clear hu
                go_wp2_with fail
                clear c0 c1 c2 c3 c4 c5 cf
                refine (defines_any ⟨iop, idst, ix, iy, imm, sym⟩ _).mono ?_
                rintro e w8 ⟨rfl, hB8⟩
                have HMG8 := Lib.hid (HMG7.out.keep hB8)
                clear hB8 HMG7
                obtain ⟨dv, hdv⟩ : ∃ d, (⟨iop, idst, ix, iy, imm, sym⟩ : Ins).defines.getD 0 = d := ⟨_, rfl⟩
                obtain ⟨d, hd⟩ : ∃ d, (⟨iop, idst, ix, iy, imm, sym⟩ : Ins).defines.isSome = d := ⟨_, rfl⟩
                have HD := Lib.hid hd
                rw [hdv, hd]
                clear hdv hd
                have hu3 : u = 0 ∨ u = 1 ∨ u = 2 := by omega
                clear hu2
                have HIA : Hid (isI64 (a : Int) ∧ ∀ r, isI64 r → isI64 (thR (a : Int) (b : Int) r)) := by
                  have h1 : isI64 (a : Int) := by have := HAB.out; have := HR12.out; unfold isI64; omega
                  exact ⟨h1, fun r hr => isI64_th h1 hr⟩
                obtain ⟨e1, he1⟩ : ∃ r, (if d = true then thR (a : Int) (b : Int) idst else idst) = r := ⟨_, rfl⟩
                obtain ⟨e2, he2⟩ : ∃ r, (if 0 < u then thR (a : Int) (b : Int) ix else ix) = r := ⟨_, rfl⟩
                obtain ⟨e3, he3⟩ : ∃ r, (if 1 < u then thR (a : Int) (b : Int) iy else iy) = r := ⟨_, rfl⟩
                have HE1 := Lib.hid he1
                have HE2 := Lib.hid he2
                have HE3 := Lib.hid he3
                have HU3 := Lib.hid hu3
                clear he1 he2 he3 hu3
                go_upto_if 118 with fail
                go_cut [] (fun w' => MgAt V5 w6.heap.size g n bc' #[.string f.name, .int .i64 (R : Int), .slice aa f.arrays.length ac, .slice (some ⟨g, 0, none⟩) n bc'] w' ((turnTo (a : Int) (b : Int) k f.blocks).set k { q with code := (turnCode (a : Int) (b : Int) m q.code).set m ⟨iop, e1, ix, iy, imm, sym⟩ }) k (some ⟨cb, 0, none⟩) cc)
                case first =>
                  cases d with
                  | true =>
                    obtain ⟨⟨c0, c1, c2, c3, c4, c5⟩, cf, hwf⟩ := HMG8.out.six HKF.out HML.out
                    obtain ⟨_, ⟨h1, h2⟩, _⟩ := KG.out _ _ _ _ _ HMG8.out
                    have HWX := Lib.hid hwf
                    clear hwf
                    go_wp2_with fail
                    clear h1 h2 c0 c1 c2 c3 c4 c5 cf
                    refine (turn_any cb (m * 6 + 1) ab bb idst (a : Int) (b : Int) _ (HMG8.out.six HKF.out HML.out).1.2.1 ((HMG8.out.six HKF.out HML.out).2.1 _) (KG.out _ _ _ _ _ HMG8.out).2.1.2 (KG.out _ _ _ _ _ HMG8.out).2.1.1).mono ?_
                    rintro e wx ⟨rfl, V, hV, hwx⟩
                    have HMGy : Hid (MgAt V5 w6.heap.size g n bc' #[.string f.name, .int .i64 (R : Int), .slice aa f.arrays.length ac, .slice (some ⟨g, 0, none⟩) n bc'] wx ((turnTo (a : Int) (b : Int) k f.blocks).set k { q with code := (turnCode (a : Int) (b : Int) m q.code).set m ⟨iop, (thR (a : Int) (b : Int) idst), ix, iy, imm, sym⟩ }) k (some ⟨cb, 0, none⟩) cc) := by
                      show MgAt _ _ _ _ _ _ _ _ _ _ _
                      rw [hwx]
                      exact HMG8.out.step HKF.out HML.out (o := 1) (by omega) { HWX.out with dst := HIA.out.2 _ HWX.out.dst } rfl hV
                    clear hV hwx HWX HMG8
                    go_wp2_with fail
                    go_meet
                    rw [← HE1.out]
                    exact HMGy.out
                  | false =>
                    go_wp2_with fail
                    go_meet
                    rw [← HE1.out]
                    exact HMG8.out
                case rest =>
                  clear HMG8
                  obtain ⟨w9, hw9⟩ : ∃ G : World, G = wc := ⟨_, rfl⟩
                  subst hw9
                  have HMG9 := Lib.hid hcut
                  clear hcut
                  go_upto_if 126 with fail
                  go_cut [] (fun w' => MgAt V5 w6.heap.size g n bc' #[.string f.name, .int .i64 (R : Int), .slice aa f.arrays.length ac, .slice (some ⟨g, 0, none⟩) n bc'] w' ((turnTo (a : Int) (b : Int) k f.blocks).set k { q with code := (turnCode (a : Int) (b : Int) m q.code).set m ⟨iop, e1, e2, iy, imm, sym⟩ }) k (some ⟨cb, 0, none⟩) cc)
                  case first =>
                    rcases HU3.out with rfl | rfl | rfl
                    · go_wp2_with fail
                      go_meet
                      rw [← HE2.out]
                      exact HMG9.out
                    · have HMGa := HMG9
                      obtain ⟨⟨c0, c1, c2, c3, c4, c5⟩, cf, hwf⟩ := HMGa.out.six HKF.out HML.out
                      obtain ⟨_, ⟨h1, h2⟩, _⟩ := KG.out _ _ _ _ _ HMGa.out
                      have HWX := Lib.hid hwf
                      clear hwf
                      go_wp2_with fail
                      clear h1 h2 c0 c1 c2 c3 c4 c5 cf
                      refine (turn_any cb (m * 6 + 2) ab bb ix (a : Int) (b : Int) _ (HMGa.out.six HKF.out HML.out).1.2.2.1 ((HMGa.out.six HKF.out HML.out).2.1 _) (KG.out _ _ _ _ _ HMGa.out).2.1.2 (KG.out _ _ _ _ _ HMGa.out).2.1.1).mono ?_
                      rintro e wx ⟨rfl, V, hV, hwx⟩
                      have HMGy : Hid (MgAt V5 w6.heap.size g n bc' #[.string f.name, .int .i64 (R : Int), .slice aa f.arrays.length ac, .slice (some ⟨g, 0, none⟩) n bc'] wx ((turnTo (a : Int) (b : Int) k f.blocks).set k { q with code := (turnCode (a : Int) (b : Int) m q.code).set m ⟨iop, e1, (thR (a : Int) (b : Int) ix), iy, imm, sym⟩ }) k (some ⟨cb, 0, none⟩) cc) := by
                        show MgAt _ _ _ _ _ _ _ _ _ _ _
                        rw [hwx]
                        exact HMGa.out.step HKF.out HML.out (o := 2) (by omega) { HWX.out with x := HIA.out.2 _ HWX.out.x } rfl hV
                      clear hV hwx HWX HMGa
                      go_wp2_with fail
                      go_meet
                      rw [← HE2.out]
                      exact HMGy.out
                    · have HMGa := HMG9
                      obtain ⟨⟨c0, c1, c2, c3, c4, c5⟩, cf, hwf⟩ := HMGa.out.six HKF.out HML.out
                      obtain ⟨_, ⟨h1, h2⟩, _⟩ := KG.out _ _ _ _ _ HMGa.out
                      have HWX := Lib.hid hwf
                      clear hwf
                      go_wp2_with fail
                      clear h1 h2 c0 c1 c2 c3 c4 c5 cf
                      refine (turn_any cb (m * 6 + 2) ab bb ix (a : Int) (b : Int) _ (HMGa.out.six HKF.out HML.out).1.2.2.1 ((HMGa.out.six HKF.out HML.out).2.1 _) (KG.out _ _ _ _ _ HMGa.out).2.1.2 (KG.out _ _ _ _ _ HMGa.out).2.1.1).mono ?_
                      rintro e wx ⟨rfl, V, hV, hwx⟩
                      have HMGy : Hid (MgAt V5 w6.heap.size g n bc' #[.string f.name, .int .i64 (R : Int), .slice aa f.arrays.length ac, .slice (some ⟨g, 0, none⟩) n bc'] wx ((turnTo (a : Int) (b : Int) k f.blocks).set k { q with code := (turnCode (a : Int) (b : Int) m q.code).set m ⟨iop, e1, (thR (a : Int) (b : Int) ix), iy, imm, sym⟩ }) k (some ⟨cb, 0, none⟩) cc) := by
                        show MgAt _ _ _ _ _ _ _ _ _ _ _
                        rw [hwx]
                        exact HMGa.out.step HKF.out HML.out (o := 2) (by omega) { HWX.out with x := HIA.out.2 _ HWX.out.x } rfl hV
                      clear hV hwx HWX HMGa
                      go_wp2_with fail
                      go_meet
                      rw [← HE2.out]
                      exact HMGy.out
                  case rest =>
                    clear HMG9
                    obtain ⟨w10, hw10⟩ : ∃ G : World, G = wc := ⟨_, rfl⟩
                    subst hw10
                    have HMGb := Lib.hid hcut
                    clear hcut
                    rcases HU3.out with rfl | rfl | rfl
                    · have HMGy : Hid (MgAt V5 w6.heap.size g n bc' #[.string f.name, .int .i64 (R : Int), .slice aa f.arrays.length ac, .slice (some ⟨g, 0, none⟩) n bc'] w10 ((turnTo (a : Int) (b : Int) k f.blocks).set k { q with code := (turnCode (a : Int) (b : Int) m q.code).set m ⟨iop, e1, e2, e3, imm, sym⟩ }) k (some ⟨cb, 0, none⟩) cc) := by
                        show MgAt _ _ _ _ _ _ _ _ _ _ _
                        rw [← HE3.out]
                        exact HMGb.out
                      clear HMGb
                      have HNX : Hid (MgAt V5 w6.heap.size g n bc' #[.string f.name, .int .i64 (R : Int), .slice aa f.arrays.length ac, .slice (some ⟨g, 0, none⟩) n bc'] w10 ((turnTo (a : Int) (b : Int) k f.blocks).set k { q with code := turnCode (a : Int) (b : Int) (m + 1) q.code }) k (some ⟨cb, 0, none⟩) cc) := by
                        have h8 := code_next (a := (a : Int)) (b := (b : Int)) HI.out
                        unfold turnI at h8
                        rw [HD.out, HU.out, HE1.out, HE2.out, HE3.out] at h8
                        have h9 := HMGy.out
                        rw [← h8]
                        exact h9
                      clear HMGy
                      go_wp2_with fail
                      exact ⟨⟨m + 1, by omega, by go_num, HNX.out⟩, by simp [intOf]; omega⟩
                    · have HMGy : Hid (MgAt V5 w6.heap.size g n bc' #[.string f.name, .int .i64 (R : Int), .slice aa f.arrays.length ac, .slice (some ⟨g, 0, none⟩) n bc'] w10 ((turnTo (a : Int) (b : Int) k f.blocks).set k { q with code := (turnCode (a : Int) (b : Int) m q.code).set m ⟨iop, e1, e2, e3, imm, sym⟩ }) k (some ⟨cb, 0, none⟩) cc) := by
                        show MgAt _ _ _ _ _ _ _ _ _ _ _
                        rw [← HE3.out]
                        exact HMGb.out
                      clear HMGb
                      have HNX : Hid (MgAt V5 w6.heap.size g n bc' #[.string f.name, .int .i64 (R : Int), .slice aa f.arrays.length ac, .slice (some ⟨g, 0, none⟩) n bc'] w10 ((turnTo (a : Int) (b : Int) k f.blocks).set k { q with code := turnCode (a : Int) (b : Int) (m + 1) q.code }) k (some ⟨cb, 0, none⟩) cc) := by
                        have h8 := code_next (a := (a : Int)) (b := (b : Int)) HI.out
                        unfold turnI at h8
                        rw [HD.out, HU.out, HE1.out, HE2.out, HE3.out] at h8
                        have h9 := HMGy.out
                        rw [← h8]
                        exact h9
                      clear HMGy
                      go_wp2_with fail
                      exact ⟨⟨m + 1, by omega, by go_num, HNX.out⟩, by simp [intOf]; omega⟩
                    · have HMGc := HMGb
                      obtain ⟨⟨c0, c1, c2, c3, c4, c5⟩, cf, hwf⟩ := HMGc.out.six HKF.out HML.out
                      obtain ⟨_, ⟨h1, h2⟩, _⟩ := KG.out _ _ _ _ _ HMGc.out
                      have HWX := Lib.hid hwf
                      clear hwf
                      go_wp2_with fail
                      clear h1 h2 c0 c1 c2 c3 c4 c5 cf
                      refine (turn_any cb (m * 6 + 3) ab bb iy (a : Int) (b : Int) _ (HMGc.out.six HKF.out HML.out).1.2.2.2.1 ((HMGc.out.six HKF.out HML.out).2.1 _) (KG.out _ _ _ _ _ HMGc.out).2.1.2 (KG.out _ _ _ _ _ HMGc.out).2.1.1).mono ?_
                      rintro e wx ⟨rfl, V, hV, hwx⟩
                      have HMGy : Hid (MgAt V5 w6.heap.size g n bc' #[.string f.name, .int .i64 (R : Int), .slice aa f.arrays.length ac, .slice (some ⟨g, 0, none⟩) n bc'] wx ((turnTo (a : Int) (b : Int) k f.blocks).set k { q with code := (turnCode (a : Int) (b : Int) m q.code).set m ⟨iop, e1, e2, (thR (a : Int) (b : Int) iy), imm, sym⟩ }) k (some ⟨cb, 0, none⟩) cc) := by
                        show MgAt _ _ _ _ _ _ _ _ _ _ _
                        rw [hwx]
                        exact HMGc.out.step HKF.out HML.out (o := 3) (by omega) { HWX.out with y := HIA.out.2 _ HWX.out.y } rfl hV
                      clear hV hwx HWX HMGc
                      have HMGz : Hid (MgAt V5 w6.heap.size g n bc' #[.string f.name, .int .i64 (R : Int), .slice aa f.arrays.length ac, .slice (some ⟨g, 0, none⟩) n bc'] wx ((turnTo (a : Int) (b : Int) k f.blocks).set k { q with code := (turnCode (a : Int) (b : Int) m q.code).set m ⟨iop, e1, e2, e3, imm, sym⟩ }) k (some ⟨cb, 0, none⟩) cc) := by
                        show MgAt _ _ _ _ _ _ _ _ _ _ _
                        rw [← HE3.out]
                        exact HMGy.out
                      clear HMGy HMGb
                      have HMGy := HMGz
                      clear HMGz
                      have HNX : Hid (MgAt V5 w6.heap.size g n bc' #[.string f.name, .int .i64 (R : Int), .slice aa f.arrays.length ac, .slice (some ⟨g, 0, none⟩) n bc'] wx ((turnTo (a : Int) (b : Int) k f.blocks).set k { q with code := turnCode (a : Int) (b : Int) (m + 1) q.code }) k (some ⟨cb, 0, none⟩) cc) := by
                        have h8 := code_next (a := (a : Int)) (b := (b : Int)) HI.out
                        unfold turnI at h8
                        rw [HD.out, HU.out, HE1.out, HE2.out, HE3.out] at h8
                        have h9 := HMGy.out
                        rw [← h8]
                        exact h9
                      clear HMGy
                      go_wp2_with fail
                      exact ⟨⟨m + 1, by omega, by go_num, HNX.out⟩, by simp [intOf]; omega⟩
              · obtain rfl : m = len := by omega
                have HMG' : Hid (MgAt V5 w6.heap.size g n bc' #[.string f.name, .int .i64 (R : Int), .slice aa f.arrays.length ac, .slice (some ⟨g, 0, none⟩) n bc'] wr ((turnTo (a : Int) (b : Int) k f.blocks).set k { q with code := q.code.map (turnI (a : Int) (b : Int)) }) k ca cc) := by
                  have h9 := HMG.out
                  rw [← HLEN.out, code_end] at h9
                  exact h9
                clear HMG
                have HQW : Hid (({ q with code := q.code.map (turnI (a : Int) (b : Int)) } : Blk).Wf) := ⟨hqw.k0, hqw.k1, hqw.x, hqw.to, hqw.els⟩
                by_cases hkd : q.kind = 2
                · have b1 : (q.kind == 2) = true := by simpa using hkd
                  have b2 : decide (q.kind = 2) = true := decide_eq_true hkd
                  have HKD := Lib.hid hkd
                  clear hkd
                  go_wp2_with fail
                  clear y0 y1 y2 y3 z0 z1 z2 zf b1 b2
                  refine (turn_any g (k * 5 + 2) ab bb q.x (a : Int) (b : Int) _ (HMG'.out.head HKF.out).2.2.1 ((HMG'.out.head HKF.out).2.2.2.1 _) (KG.out _ _ _ _ _ HMG'.out).2.1.2 (KG.out _ _ _ _ _ HMG'.out).2.1.1).mono ?_
                  rintro e wx ⟨rfl, V, hV, hwx⟩
                  have HNX : Hid (∃ ca cc, MgAt V5 w6.heap.size g n bc' #[.string f.name, .int .i64 (R : Int), .slice aa f.arrays.length ac, .slice (some ⟨g, 0, none⟩) n bc'] wx (turnTo (a : Int) (b : Int) (k + 1) f.blocks) 0 ca cc) := by
                    have h1 : isI64 (a : Int) := by have := HAB.out; have := HR12.out; unfold isI64; omega
                    have h9 := HMG'.out.turn (u := .int .i64 (thR (a : Int) (b : Int) q.x)) (q' := { q with code := q.code.map (turnI (a : Int) (b : Int)), x := thR (a : Int) (b : Int) q.x }) HKF.out rfl { HQW.out with x := isI64_th h1 HQW.out.x } (fun _ _ => rfl) hV
                    have h8 := turn_end (a := (a : Int)) (b := (b : Int)) HQ.out
                    unfold turnBlk at h8
                    rw [if_pos HKD.out] at h8
                    rw [← hwx, h8] at h9
                    exact h9.to HN0.out
                  clear hV hwx HMG'
                  go_wp2_with fail
                  exact ⟨⟨k + 1, by omega, by go_num, HNX.out⟩, by simp [intOf]; omega⟩
                · have b1 : (q.kind == 2) = false := by simpa using hkd
                  have b2 : decide (q.kind = 2) = false := decide_eq_false hkd
                  have HNX : Hid (∃ ca cc, MgAt V5 w6.heap.size g n bc' #[.string f.name, .int .i64 (R : Int), .slice aa f.arrays.length ac, .slice (some ⟨g, 0, none⟩) n bc'] wr (turnTo (a : Int) (b : Int) (k + 1) f.blocks) 0 ca cc) := by
                    have h9 := HMG'.out
                    have h8 := turn_end (a := (a : Int)) (b := (b : Int)) HQ.out
                    unfold turnBlk at h8
                    rw [if_neg hkd] at h8
                    rw [h8] at h9
                    exact h9.to HN0.out
                  clear hkd HMG'
                  go_wp2_with fail
                  exact ⟨⟨k + 1, by omega, by go_num, HNX.out⟩, by simp [intOf]; omega⟩
          · obtain rfl : n = k := by omega
            clear hlt y0 y1 y2 y3
            have HBWR : Hid (Below W.heap.size W wr) := (KG.out _ _ _ _ _ HMG0.out).2.2
            obtain ⟨⟨x0, x1, x2, x3⟩, hbf, hfn⟩ := HXC.out wr HBWR.out
            obtain ⟨⟨x4, x5, x6, x7⟩, hca⟩ := HXD.out wr HBWR.out
            obtain ⟨⟨y0, y1, y2, y3⟩, _, _⟩ := KG.out _ _ _ _ _ HMG0.out
            have QB : Hid (Calls Tryd.prog 34 #[.agg #[.string f.name, .int .i64 (R : Int), .slice aa f.arrays.length ac, .slice ba n bc, .slice sa shared.length sc, .slice ara arrays.length arc, .slice oba objects.length obc, .slice ia inp.length ic], .agg #[.string f.name, .int .i64 (R : Int), .slice aa f.arrays.length ac, .slice ba n bc], .agg #[.string f.name, .int .i64 (R : Int), .slice aa f.arrays.length ac, .slice (some ⟨g, 0, none⟩) n bc']] wr
                fun e w' => e = .returned (.bool true) ∧ Below wr.heap.size wr w') := by
              have hg : FnAt wr (turnFn (a : Int) (b : Int) f) aa (some ⟨g, 0, none⟩) := by
                have h9 := HMG0.out.cp.blks
                have h8 : turnTo (a : Int) (b : Int) n f.blocks = (turnFn (a : Int) (b : Int) f).blocks := part_all (by rw [HN.out]; exact Nat.le_refl _)
                rw [h8] at h9
                exact ⟨hfn.arrays, h9, hfn.regs, hfn.name⟩
              have hl : (turnFn (a : Int) (b : Int) f).blocks.length = n := by
                show (f.blocks.map _).length = n
                rw [List.length_map, HN.out]
              have hr : (turnFn (a : Int) (b : Int) f).regs = (R : Int) := HREG.out
              have hrs : (runOf f shared arrays objects inp 600).err = 3 ∨ (runOf (turnFn (a : Int) (b : Int) f) shared arrays objects inp 600).err = 13 ∨ Oc.like (runOf f shared arrays objects inp 600) (runOf (turnFn (a : Int) (b : Int) f) shared arrays objects inp 600) := by
                cases hv : runFits f shared arrays objects with
                | false => exact .inl (by unfold runOf; rw [hv]; rfl)
                | true => exact .inr (.inr (run_turn HFR.out HLSOL.out ⟨by omega, by have := HAB.out; omega⟩ HNO.out hv))
              have h9 := behaves_any f (turnFn (a : Int) (b : Int) f) shared arrays objects inp aa ba aa (some ⟨g, 0, none⟩) sa ara oba ia ac bc ac bc' sc arc obc ic wr hfn hg hca HZ.out hrs
              unfold callV at h9
              rw [hl, hr, HREG.out, HN.out] at h9
              exact h9
            have HBF := Lib.hid hbf
            clear hbf hfn hca HMG0
            go_wp2_with fail
            refine QB.out.mono ?_
            rintro e w11 ⟨rfl, hB11⟩
            have HBE : Hid (Below w.heap.size w w11) := mem_then HBF.out hB11
            clear hB11 x0 x1 x2 x3 x4 x5 x6 x7 y0 y1 y2 y3
            go_wp2_with fail
            go_ret
            exact ⟨rfl, HBE.out⟩
end Go.Proofs.YteknhnnlhhgppaaDoor
