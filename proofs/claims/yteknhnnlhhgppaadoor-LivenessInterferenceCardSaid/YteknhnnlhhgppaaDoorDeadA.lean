/-
  Contract: after (package liveness), with the visitor of Dead.
-/
import Derived.Test.YteknhnnlhhgppaaDoorMg23
namespace Go.Proofs.YteknhnnlhhgppaaDoor
set_option linter.unusedVariables false
set_option linter.unusedSimpArgs false
open Go.RowKit
set_option maxRecDepth 100000
set_option maxHeartbeats 16000000

theorem downFrom_len (b : Blk) (o k m : Nat) : (downFrom b o k m).length ≤ b.code.length := by
  unfold downFrom
  rw [List.length_reverse, List.length_map]
  refine Nat.le_trans (List.length_filter_le _ _) ?_
  rw [List.length_range']
  omega
theorem row_notP {w : World} {B size n : Nat} {e : TypeId} {v : Value} {xs : List Value} {k : Nat} (h : w.ownsRow B e size v n xs) (he : e ≠ 80) (hk : v.ownBlock = some k) : ∀ arr fz, w.heap[k]? ≠ some (.cells arr 80 fz) := fun arr fz hc => by
  rcases h.2 with ⟨rfl, _⟩ | ⟨g, cap, cur, rfl, _, hg, _⟩
  · cases hk
  · have e9 : g = k := by injection hk
    subst e9
    rw [hg] at hc
    injection hc with hc
    injection hc with _ hc
    exact he hc
theorem SolSt.aboveP {B R T : Nat} {w w' : World} {iv ov pv wv kv : Value} {ins outs : List (Value × Nat)} {prev : List (Value × List Nat)} {wait : List Bool} {work : List Nat} (h : SolSt B R w iv ov pv wv kv ins outs prev wait work) (hB : T ≤ B) (ha : AboveP T w w') : SolSt B R w' iv ov pv wv kv ins outs prev wait work :=
  have mv : ∀ {e : TypeId} {size n : Nat} {v : Value} {xs : List Value}, e ≠ 80 → w.ownsRow B e size v n xs → w'.ownsRow B e size v n xs := fun he h9 => ownsRow_move h9 fun k hk hlt => ha.2 k (Nat.le_trans hB (ownsRow_lt h9 hk).1) hlt (row_notP h9 he hk)
  { h with io := mv (by decide) h.io, oo := mv (by decide) h.oo, po := mv (by decide) h.po, wo := mv (by decide) h.wo, ko := mv (by decide) h.ko, ii := fun p hp => ⟨mv (by decide) (h.ii p hp).row, (h.ii p hp).lt, (h.ii p hp).few⟩, oi := fun p hp => ⟨mv (by decide) (h.oi p hp).row, (h.oi p hp).lt, (h.oi p hp).few⟩, pi := fun p hp => mv (by decide) (h.pi p hp) }
theorem SetV.aboveP {B R T s : Nat} {w w' : World} {v : Value} (h : SetV B R w v s) (hB : T ≤ B) (ha : AboveP T w w') : SetV B R w' v s :=
  h.move fun _ hk hlt => ha.2 _ (Nat.le_trans hB (h.own hk).1) hlt (row_notP h.row (by decide) hk)
theorem aboveP_heap {T b : Nat} {w w' : World} {arr : Array Value} {e : TypeId} (ha : AboveP T w w') (hb : T ≤ b) (h : w.heap[b]? = some (.cells arr e)) (he : e ≠ 80) : w'.heap[b]? = some (.cells arr e) :=
  (ha.2 b hb (lt_heap h) (fun arr9 fz hc => by
    rw [h] at hc
    injection hc with hc
    injection hc with _ hc
    exact he hc)).trans h
def DAfterEnd (f : Fn) (aa ba : Option Addr) (ac bc R n fb db T : Nat) (w0 : World) (e : Ending) (w' : World) : Prop :=
  (∃ u, e = .returned u) ∧ ∃ ins outs, Sol f R ins outs ∧ DeadSt f aa ba ac bc R n fb db T w0 w' (deadDown f outs n)
theorem dafter_any (f : Fn) (aa ba : Option Addr) (ac bc R n fb db : Nat) (w0 w : World) (hf : FnAt w0 f aa ba) (hF : FormR f R) (hreg : f.regs = (R : Int)) (hn : f.blocks.length = n) (hbl : n ≤ 10) (hcl : ∀ b ∈ f.blocks, b.code.length ≤ 20)
    (h : DeadSt f aa ba ac bc R n fb db w.heap.size w0 w []) :
    Calls Tryd.prog 52 #[.agg #[.string f.name, .int .i64 (R : Int), .slice aa f.arrays.length ac, .slice ba n bc], .func (.func 67) #[] #[.pointer (some ⟨fb, 0, none⟩), .pointer (some ⟨db, 0, none⟩)]] w
      (DAfterEnd f aa ba ac bc R n fb db w.heap.size w0) := by
  have HI := Lib.hid h
  have HF := Lib.hid hf
  have HFR := Lib.hid hF
  have HCL := Lib.hid hcl
  have HN := Lib.hid hn
  have HCL9 : Hid (∀ b ∈ f.blocks, b.code.length ≤ 1000000) := fun b hb => Nat.le_trans (hcl b hb) (by omega)
  obtain ⟨T, hT⟩ : ∃ T, w.heap.size = T := ⟨_, rfl⟩
  obtain ⟨W, hW⟩ : ∃ W : World, w.alloc (.cells #[.string f.name, .int .i64 (R : Int), .slice aa f.arrays.length ac, .slice ba n bc] 25) = W := ⟨_, rfl⟩
  have hWs : W.heap.size = T + 1 := by rw [← hW, ← hT]; simp
  have HWS := Lib.hid hWs
  have HBW : Hid (Below T w W) := by show Below _ _ _; rw [← hW, ← hT]; exact (Below.refl _ _).alloc (Nat.le_refl _) _
  have HX : Hid (W.heap[T]? = some (.cells #[.string f.name, .int .i64 (R : Int), .slice aa f.arrays.length ac, .slice ba n bc] 25)) := by
    show _ = _
    rw [← hW, ← hT]
    exact (MapKept.heap_alloc w _).1
  have HI1 : Hid (DeadSt f aa ba ac bc R n fb db T w0 W []) := by
    show DeadSt _ _ _ _ _ _ _ _ _ _ _ _ _
    have h9 := HI.out.keep (hT.symm ▸ HBW.out)
    rw [hT] at h9
    exact h9
  rw [hT]
  have QS : Hid (∀ w', Below w0.heap.size w0 w' → Calls Tryd.prog 41 #[.agg #[.string f.name, .int .i64 (R : Int), .slice aa f.arrays.length ac, .slice ba n bc]] w' (SolEnd f R w')) := fun w' h9 => by
    have h8 := solve_any f R aa ba ac bc w' (HF.out.below h9) HFR.out (by rw [HN.out]; omega) HCL9.out
    rw [hreg, HN.out] at h8
    exact h8
  have x0 : W.cell? ⟨T, 0, none⟩ = some (.string f.name) := cell_heap HX.out 0
  have x1 : W.cell? ⟨T, 1, none⟩ = some (.int .i64 (R : Int)) := cell_heap HX.out 1
  have x2 : W.cell? ⟨T, 2, none⟩ = some (.slice aa f.arrays.length ac) := cell_heap HX.out 2
  have x3 : W.cell? ⟨T, 3, none⟩ = some (.slice ba n bc) := cell_heap HX.out 3
  clear h hf hF hcl hn hreg hWs
  go_enter Tryd.func52, Tryd.ntmps52
  go_wp2_with fail
  clear hW x0 x1 x2 x3
  refine (QS.out _ HI1.out.bel).mono ?_
  rintro e w1 ⟨siv, sov, spv, swv, skv, ins, outs, sprev, swait, swork, rfl, hst, hsol, hB⟩
  obtain ⟨iva, ivc, rfl⟩ := ownsRow_val hst.io
  obtain ⟨ova, ovc, rfl⟩ := ownsRow_val hst.oo
  have hil : ins.length = n := by have := hsol.li; rw [List.length_map, HN.out] at this; exact this
  have hol : outs.length = n := by have := hsol.lo; rw [List.length_map, HN.out] at this; exact this
  have hnp : 0 < n := by have := HFR.out.one; rw [HN.out] at this; exact this
  obtain ⟨ob, rfl, _⟩ := own_some hst.oo (by omega)
  have HST := Lib.hid hst
  have HSOL := Lib.hid hsol
  have HI2 := Lib.hid (HI1.out.keep hB)
  have HZ2 : Hid (w1.heap[T]? = some (.cells #[.string f.name, .int .i64 (R : Int), .slice aa f.arrays.length ac, .slice ba n bc] 25)) := (hB.block _ (lt_heap HX.out)).trans HX.out
  have HLL := Lib.hid (And.intro hil hol)
  obtain ⟨O, hO⟩ : ∃ O, outs.map (fun p : Value × Nat => p.2) = O := ⟨_, rfl⟩
  have HO := Lib.hid hO
  have x3 : w1.cell? ⟨T, 3, none⟩ = some (.slice ba n bc) := cell_heap HZ2.out 3
  have hn0 : (0 : Int) ≤ (n : Int) := by omega
  rw [hol]
  clear hst hsol hB hil hol hO
  go_wp2_with fail
  clear x3
  go_loopw [18] (fun i wr => ∃ j : Nat, j ≤ n ∧ i = .int .i64 (j : Int) ∧ DeadSt f aa ba ac bc R n fb db T w0 wr (deadDown f O j) ∧ SolSt W.heap.size R wr (.slice iva ins.length ivc) (.slice (some ⟨ob, 0, none⟩) outs.length ovc) spv swv skv ins outs sprev swait swork ∧ wr.heap[T]? = some (.cells #[.string f.name, .int .i64 (R : Int), .slice aa f.arrays.length ac, .slice ba n bc] 25)) (fun i _ => n - (intOf i).toNat)
  case atStart => exact ⟨0, Nat.zero_le _, rfl, HI2.out, HST.out, HZ2.out⟩
  case round =>
    obtain ⟨j, hj, rfl, hint, hst, hz⟩ := hrel
    have HINT := Lib.hid hint
    have HSTJ := Lib.hid hst
    have HZJ := Lib.hid hz
    have hj0 : (0 : Int) ≤ (j : Int) := by omega
    clear hint hst hz
    by_cases hlt : j < n
    · have hlt2 : (j : Int) < (n : Int) := by omega
      obtain ⟨b, hb⟩ : ∃ b, f.blocks[j]? = some b := ⟨_, List.getElem?_eq_getElem (by rw [HN.out]; exact hlt)⟩
      have HB := Lib.hid hb
      rcases HF.out.blocks.at_ with h0 | ⟨bb, off, rfl, hk⟩
      · have := HN.out; omega
      obtain ⟨ca, cc, hba, hcode⟩ := hk j b hb
      obtain ⟨c0, c1, c2, c3, c4⟩ := hba.below HINT.out.bel
      have HCODE := Lib.hid hcode
      have x3 : wr.cell? ⟨T, 3, none⟩ = some (.slice (some ⟨bb, off, none⟩) n bc) := cell_heap HZJ.out 3
      obtain ⟨V1, hV1⟩ : ∃ V1 : World, wr.alloc (.cells #[.slice ca b.code.length cc, .int .u8 b.kind, .int .i64 b.x, .int .i64 b.to, .int .i64 b.els] 43) = V1 := ⟨_, rfl⟩
      have HBV1 : Hid (Below wr.heap.size wr V1) := by show Below _ _ _; rw [← hV1]; exact (Below.refl _ _).alloc (Nat.le_refl _) _
      have HZ1 : Hid (V1.heap[wr.heap.size]? = some (.cells #[.slice ca b.code.length cc, .int .u8 b.kind, .int .i64 b.x, .int .i64 b.to, .int .i64 b.els] 43)) := by
        show _ = _
        rw [← hV1]
        exact (MapKept.heap_alloc wr _).1
      have HSV1 := Lib.hid (HSTJ.out.keep HBV1.out)
      have HBRK := Lib.hid (HFR.out.blk b (List.mem_of_getElem? hb))
      obtain ⟨vo, hvo⟩ : ∃ vo, outs[j]? = some vo := ⟨_, List.getElem?_eq_getElem (by have := HLL.out; omega)⟩
      obtain ⟨vx, ox⟩ := vo
      have HVO := Lib.hid hvo
      have hvs := HSV1.out.oi _ (List.mem_of_getElem? hvo)
      have HVS := Lib.hid hvs
      obtain ⟨vxa, vxc, e9⟩ := ownsRow_val hvs.row
      simp only at e9
      subst e9
      obtain ⟨o0, _, _⟩ := HSV1.out.cellOutA rfl hvo
      simp only at o0
      obtain ⟨d0, d1, d2, d3, d4⟩ := five_cells HZ1.out
      have hcl1 := HCL.out b (List.mem_of_getElem? hb)
      have hcl0 : (0 : Int) ≤ (b.code.length : Int) := by omega
      clear hk hba hcode hb hvo hvs
      go_wp2_with fail
      go_still_tail 5, (by kernel_rfl)
      change wpList _ _ _ _ _ V1.drew
      clear hV1
      go_wp2_with fail
      clear c0 c1 c2 c3 c4 d0 d1 d2 d3 d4 x3 o0
      refine (last_any b ca cc _ HVS.out.drew HBRK.out.fin).mono ?_
      rintro e w5 ⟨sv, rfl, hL, hB⟩
      have hL1 : SetV V1.heap.size R w5 sv (lastB b ox) := hL
      have hB1 : Below V1.heap.size V1 w5 := ((Below.refl _ _).drew).trans hB
      have HV5 : Hid (V1.heap.size ≤ w5.heap.size) := hB1.size
      have HTV : Hid (T ≤ V1.heap.size) := Nat.le_trans HINT.out.t5 HBV1.out.size
      have HSB := Lib.hid (HSV1.out.keep hB1)
      have HFRE := Lib.hid (HSV1.out.fresh hL1)
      have HIB := Lib.hid ((HINT.out.keep HBV1.out).keep hB1)
      have HZB : Hid (w5.heap[wr.heap.size]? = some (.cells #[.slice ca b.code.length cc, .int .u8 b.kind, .int .i64 b.x, .int .i64 b.to, .int .i64 b.els] 43)) := (hB1.block _ (lt_heap HZ1.out)).trans HZ1.out
      have HZT : Hid (w5.heap[T]? = some (.cells #[.string f.name, .int .i64 (R : Int), .slice aa f.arrays.length ac, .slice (some ⟨bb, off, none⟩) n bc] 25)) := by
        have h8 := (HBV1.out.block _ (lt_heap HZJ.out)).trans HZJ.out
        exact (hB1.block _ (lt_heap h8)).trans h8
      obtain ⟨sva, svc, rfl⟩ := ownsRow_val hL1.row
      have HLB : Hid (SetV V1.heap.size R w5 (.slice sva (nw R) svc) (blkB b b.code.length ox)) := by
        show SetV _ _ _ _ _
        rw [blkB_end]
        exact hL1
      have HOX : Hid (O.getD j 0 = ox) := by
        show _ = _
        rw [← HO.out, List.getD_eq_getElem?_getD, List.getElem?_map, HVO.out]
        rfl
      have HMW : Hid (w0.heap.size ≤ V1.heap.size) := Nat.le_trans HINT.out.bel.size HBV1.out.size
      have HIC : Hid (DeadSt f aa (some ⟨bb, off, none⟩) ac bc R n fb db T w0 w5 (deadDown f O j ++ downFrom b ox j b.code.length)) := by
        show DeadSt _ _ _ _ _ _ _ _ _ _ _ _ _
        rw [downFrom_end, List.append_nil]
        exact HIB.out
      have HLEN : Hid (∀ m, (deadDown f O j ++ downFrom b ox j m).length ≤ 1000000) := fun m => by
        have h1 := deadUp_len (outs := O) HCL.out j
        have h2 := (dead_perm f O j).length_eq
        have h3 := downFrom_len b ox j m
        have h4 := HCL.out b (List.mem_of_getElem? HB.out)
        rw [List.length_append]
        omega
      obtain ⟨d0, d1, d2, d3, d4⟩ := five_cells HZB.out
      clear hL hL1 hB hB1
      go_wp2_with fail
      clear d0 d1 d2 d3 d4
      obtain ⟨wq, rfl⟩ : ∃ wq : World, wq = wr := ⟨_, rfl⟩
      go_loopw [9] (fun i wi => ∃ m : Nat, m ≤ b.code.length ∧ i = .int .i64 ((m : Int) - 1) ∧ DeadSt f aa (some ⟨bb, off, none⟩) ac bc R n fb db T w0 wi (deadDown f O j ++ downFrom b ox j m) ∧ SolSt W.heap.size R wi (.slice iva ins.length ivc) (.slice (some ⟨ob, 0, none⟩) outs.length ovc) spv swv skv ins outs sprev swait swork ∧ SetV V1.heap.size R wi (.slice sva (nw R) svc) (blkB b m ox) ∧ wi.heap[wq.heap.size]? = some (.cells #[.slice ca b.code.length cc, .int .u8 b.kind, .int .i64 b.x, .int .i64 b.to, .int .i64 b.els] 43) ∧ wi.heap[T]? = some (.cells #[.string f.name, .int .i64 (R : Int), .slice aa f.arrays.length ac, .slice (some ⟨bb, off, none⟩) n bc] 25) ∧ V1.heap.size ≤ wi.heap.size) (fun i _ => (intOf i + 1).toNat)
      case atStart => exact ⟨b.code.length, Nat.le_refl _, rfl, HIC.out, HSB.out, HLB.out, HZB.out, HZT.out, HV5.out⟩
      case round =>
        obtain ⟨m, hm, rfl, hi2, hs2, hl2, hz2, ht2, hv2⟩ := hrel
        have HI3 := Lib.hid hi2
        have HS3 := Lib.hid hs2
        have HL3 := Lib.hid hl2
        have HZ3 := Lib.hid hz2
        have HT3 := Lib.hid ht2
        have HV3 := Lib.hid hv2
        clear hi2 hs2 hl2 hz2 ht2 hv2
        rcases Nat.eq_zero_or_pos m with rfl | hmp
        · have e0 : ((0 : Nat) : Int) - 1 = -1 := by omega
          rw [e0]
          clear e0
          have HIN : Hid (DeadSt f aa (some ⟨bb, off, none⟩) ac bc R n fb db T w0 wr (deadDown f O (j + 1))) := by
            show DeadSt _ _ _ _ _ _ _ _ _ _ _ _ _
            rw [deadDown_succ HB.out, HOX.out]
            exact HI3.out
          go_wp2_with fail
          exact ⟨⟨j + 1, by omega, by go_num, HIN.out, HS3.out, HT3.out⟩, by simp [intOf]; omega⟩
        · obtain ⟨m', rfl⟩ : ∃ m', m = m' + 1 := ⟨m - 1, by omega⟩
          have e0 : ((m' + 1 : Nat) : Int) - 1 = (m' : Int) := by omega
          rw [e0]
          have hm0 : (0 : Int) ≤ (m' : Int) := by omega
          have hm1 : m' < b.code.length := by omega
          have hm2 : (m' : Int) < (b.code.length : Int) := by omega
          obtain ⟨q, hq⟩ : ∃ q, b.code[m']? = some q := ⟨_, List.getElem?_eq_getElem hm1⟩
          have HQ := Lib.hid hq
          have HQR := Lib.hid (HBRK.out.ins q (List.mem_of_getElem? hq)).2.2
          clear e0 hq hmp
          go_wp2_with fail
          refine (dvisit_any f aa (some ⟨bb, off, none⟩) ac bc R n fb db T V1.heap.size (blkB b (m' + 1) ox) j m' b q _ w0 _ _ HF.out HN.out HI3.out HL3.out HB.out HQ.out HQR.out (HLEN.out _)).mono ?_
          rintro e w6 ⟨⟨u6, rfl⟩, hI6, hA6⟩
          have HI6 : Hid (DeadSt f aa (some ⟨bb, off, none⟩) ac bc R n fb db T w0 w6 (deadDown f O j ++ downFrom b ox j m')) := by
            show DeadSt _ _ _ _ _ _ _ _ _ _ _ _ _
            rw [downFrom_step hm1, deadAt_some HQ.out, ← List.append_assoc]
            exact hI6
          have HS6 := Lib.hid (HS3.out.aboveP (by have := HWS.out; omega) hA6)
          have HL6 := Lib.hid (HL3.out.aboveP HTV.out hA6)
          have HZ6 := Lib.hid (aboveP_heap hA6 HINT.out.t5 HZ3.out (by decide))
          have HT6 := Lib.hid (aboveP_heap hA6 (Nat.le_refl _) HT3.out (by decide))
          have HV6 : Hid (V1.heap.size ≤ w6.heap.size) := Nat.le_trans HV3.out hA6.1
          rcases HCODE.out.at_ with h0 | ⟨cb, co, rfl, hcc⟩
          · omega
          obtain ⟨c0, c1, c2, c3, c4, c5⟩ := (hcc m' q HQ.out).below HI6.out.bel
          obtain ⟨d0, d1, d2, d3, d4⟩ := five_cells HZ6.out
          clear hI6 hA6 hcc
          go_wp2_with fail
          clear c0 c1 c2 c3 c4 c5 d0 d1 d2 d3 d4
          refine (back_any q _ HL6.out HQR.out HV6.out).mono ?_
          rintro e w7 ⟨⟨u7, rfl⟩, hA, hTu⟩
          have HL7 : Hid (SetV V1.heap.size R w7 (.slice sva (nw R) svc) (blkB b m' ox)) := by
            show SetV _ _ _ _ _
            rw [blkB_step HQ.out]
            exact hA
          have HS7 := Lib.hid (HS6.out.turnSet HL6.out HFRE.out.1 HFRE.out.2 hTu)
          have HI7 := Lib.hid (HI6.out.turn HL6.out.row HMW.out (by decide) (by decide) (by decide) hTu)
          have HZ7 := Lib.hid (block_other HL6.out.row HZ6.out (by decide) hTu)
          have HT7 := Lib.hid (block_other HL6.out.row HT6.out (by decide) hTu)
          have HV7 : Hid (V1.heap.size ≤ w7.heap.size) := Nat.le_trans HV6.out hTu.size
          clear hA hTu
          go_wp2_with fail
          exact ⟨⟨m', by omega, rfl, HI7.out, HS7.out, HL7.out, HZ7.out, HT7.out, HV7.out⟩, by simp [intOf]⟩
    · obtain rfl : j = n := by omega
      go_wp2_with fail
      go_end0
      exact ⟨⟨_, rfl⟩, ins.map (fun p : Value × Nat => p.2), O, by have h9 := HSOL.out; rw [HO.out] at h9; exact h9, HINT.out⟩
end Go.Proofs.YteknhnnlhhgppaaDoor
