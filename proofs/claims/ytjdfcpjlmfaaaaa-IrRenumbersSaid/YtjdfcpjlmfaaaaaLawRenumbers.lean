/-
  IrRenumbers (package ontimelaw17): renumbering the registers of a valid function does not change the outcome.
-/
import Derived.Test.YtjdfcpjlmfaaaaaLawRen
namespace Go.Proofs.Ytjdfcpjlmfaaaaa
set_option linter.unusedVariables false
set_option linter.unusedSimpArgs false
open Go.RowKit
set_option maxRecDepth 100000
set_option maxHeartbeats 16000000

theorem fn_cells' {W w' : World} {n : Nat} {c0 c1 c2 c3 : Value} {T : TypeId} (h : W.heap[n]? = some (.cells #[c0, c1, c2, c3] T)) (hB : Below W.heap.size W w') :
    w'.cell? ⟨n, 0, none⟩ = some c0 ∧ w'.cell? ⟨n, 1, none⟩ = some c1 ∧ w'.cell? ⟨n, 2, none⟩ = some c2 ∧ w'.cell? ⟨n, 3, none⟩ = some c3 := by
  have h' := (hB.block n (lt_heap h)).trans h
  exact ⟨cell_heap h' 0, cell_heap h' 1, cell_heap h' 2, cell_heap h' 3⟩
theorem irRenumbers_any (f : Fn) (shared : List (ByteArray × Int)) (arrays objects : List (List Int)) (inp : List Int) (by_ : Int) (hn0 : 0 ≤ by_) (hn1 : by_ ≤ 255) (aa ba sa ara oba ia : Option Addr) (ac bc sc arc obc ic : Nat) (w : World) (hf : FnAt w f aa ba) (hs : ArrsAt w sa shared)
    (ha : ContAt w ara arrays) (ho : ContAt w oba objects) (hin : WordsAt w ia inp) :
    Calls Try.prog 7 #[fnVal f.name f.regs aa f.arrays.length ac ba f.blocks.length bc, .slice sa shared.length sc, .slice ara arrays.length arc, .slice oba objects.length obc, .slice ia inp.length ic, .int .u8 by_] w fun e w' => e = .returned (.bool true) ∧ Below w.heap.size w w' := by
  have HF := Lib.hid hf
  have HS := Lib.hid hs
  have HA := Lib.hid ha
  have HO := Lib.hid ho
  have HI := Lib.hid hin
  have ls := hs.fits
  have li := hin.fits
  clear hf hs ha ho hin
  obtain ⟨W, hW⟩ : ∃ W : World, (w.alloc (.cells #[.string f.name, .int .i64 f.regs, .slice aa f.arrays.length ac, .slice ba f.blocks.length bc] 25)).alloc (.cells #[.int .u8 by_] 5) = W := ⟨_, rfl⟩
  have HBW : Hid (Below w.heap.size w W) := by show Below _ _ _; rw [← hW]; exact ((Below.refl _ _).alloc (Nat.le_refl _) _).alloc (by simp) _
  have hnW2 : w.heap.size + 1 < W.heap.size := by rw [← hW]; simp
  have HX : Hid (W.heap[w.heap.size]? = some (.cells #[.string f.name, .int .i64 f.regs, .slice aa f.arrays.length ac, .slice ba f.blocks.length bc] 25)) := by
    show _ = _
    rw [← hW, Below.heap_alloc _ _ _ (by simp)]
    exact heap_new _ _
  have HXB : Hid (W.heap[w.heap.size + 1]? = some (.cells #[.int .u8 by_] 5)) := by
    show _ = _
    rw [← hW]
    exact MapKept.heap_alloc (w.alloc _) _ |>.1 |> fun h => by simpa using h
  have HFW := Lib.hid (HF.out.below HBW.out)
  have HSW := Lib.hid (HS.out.below HBW.out)
  have HAW := Lib.hid (HA.out.below HBW.out)
  have HOW := Lib.hid (HO.out.below HBW.out)
  have HIW := Lib.hid (HI.out.below HBW.out)
  have hnW : w.heap.size < W.heap.size := by omega
  go_enter Try.func7, Try.ntmps7
  go_wp2_with fail
  clear hW
  refine (awake_any W).mono ?_
  rintro e w1 ⟨rfl, hB1⟩
  have HB1 := Lib.hid hB1
  clear hB1
  obtain ⟨y0, y1, y2, y3⟩ := fn_cells' HX.out HB1.out
  go_wp2_with fail
  refine (small_any f aa ba ac bc w1 (HFW.out.below HB1.out)).mono ?_
  rintro e w2 ⟨rfl, hB2⟩
  have HB2 := Lib.hid (below_next HB1.out hB2)
  clear hB2 y0 y1 y2 y3
  cases hsm : smallOk f with
  | false =>
    simp only [bit01, cond_false]
    go_wp2_with fail
    go_ret
    exact ⟨rfl, HBW.out.trans (HB2.out.mono (by omega))⟩
  | true =>
  simp only [bit01, cond_true]
  by_cases hl : 12 < shared.length
  · have hl' : (12 : Int) < (shared.length : Int) := by omega
    go_wp2_with fail
    go_ret
    exact ⟨rfl, HBW.out.trans (HB2.out.mono (by omega))⟩
  have hl' : decide ((12 : Int) < (shared.length : Int)) = false := by simp; omega
  have hl3 : shared.length ≤ 12 := by omega
  have HSM := Lib.hid (small_blocks hsm)
  clear hsm hl
  go_wp2_with fail
  refine (conts_any arrays ara arc w2 (HAW.out.below HB2.out)).mono ?_
  rintro e w2' ⟨rfl, rfl⟩
  cases hc1 : contsOk arrays with
  | false =>
    simp only [bit01, cond_false]
    go_wp2_with fail
    go_ret
    exact ⟨rfl, HBW.out.trans (HB2.out.mono (by omega))⟩
  | true =>
  simp only [bit01, cond_true]
  go_wp2_with fail
  refine (conts_any objects oba obc w2 (HOW.out.below HB2.out)).mono ?_
  rintro e w2' ⟨rfl, rfl⟩
  cases hc2 : contsOk objects with
  | false =>
    simp only [bit01, cond_false]
    go_wp2_with fail
    go_ret
    exact ⟨rfl, HBW.out.trans (HB2.out.mono (by omega))⟩
  | true =>
  simp only [bit01, cond_true]
  have HC1 := Lib.hid (conts_short hc1)
  have HC2 := Lib.hid (conts_short hc2)
  clear hc1 hc2
  by_cases hi : 40 < inp.length
  · have hi' : (40 : Int) < (inp.length : Int) := by omega
    go_wp2_with fail
    go_ret
    exact ⟨rfl, HBW.out.trans (HB2.out.mono (by omega))⟩
  have hi' : decide ((40 : Int) < (inp.length : Int)) = false := by simp; omega
  obtain ⟨y0, y1, y2, y3⟩ := fn_cells' HX.out HB2.out
  by_cases hrg : f.regs < 1
  · go_wp2_with fail
    go_ret
    exact ⟨rfl, HBW.out.trans (HB2.out.mono (by omega))⟩
  have hrg' : decide (f.regs < 1) = false := by simp; omega
  go_wp2_with fail
  refine (valid_any f shared aa ba sa ac bc sc w2 (HFW.out.below HB2.out) (HSW.out.below HB2.out) (by omega)).mono ?_
  rintro e w3 ⟨rfl, hB3⟩
  have HB3 := Lib.hid (below_next HB2.out hB3)
  clear hB3 y0 y1 y2 y3
  cases hv : fnOk f shared with
  | false =>
    clear hv
    go_wp2_with fail
    go_ret
    exact ⟨rfl, HBW.out.trans (HB3.out.mono (by omega))⟩
  | true =>
  have HV := Lib.hid hv
  have hal := arrs_four hv
  have hbl := HSM.out.1
  clear hv hl' hi' hi
  have hrg2 : f.regs ≤ 10000 := by obtain ⟨_, _, h3, _⟩ := fnOk_parts HV.out; exact h3
  have hrg1 : 1 ≤ f.regs := by omega
  have HREN : Hid (Renum f.regs (fun r => (r + by_) % f.regs)) := renum_add (by omega)
  have HTV : Hid (∀ r, 0 ≤ r → r < f.regs → isI64 ((r + by_) % f.regs)) := fun r h0 h1 => by
    have h2 : 0 ≤ (r + by_) % f.regs := HREN.out.lo r h0 h1
    have h3 : (r + by_) % f.regs < f.regs := HREN.out.hi r h0 h1
    exact ⟨by omega, by omega⟩
  clear hrg hrg'
  obtain ⟨y0, y1, y2, y3⟩ := fn_cells' HX.out HB3.out
  go_wp2_with fail
  refine (copied_any f aa ba ac bc _ (HFW.out.below HB3.out) (by omega) (by omega) (fun b hb => by have := HSM.out.2 b hb; omega)).mono ?_
  rintro e w4 ⟨na, nc, ma, mc, l0, rfl, hcp, hB4⟩
  have HCP := Lib.hid hcp
  have h34 := hB4.size
  have HB4 := Lib.hid (below_next HB3.out hB4)
  clear hcp hB4 y0 y1 y2 y3
  have hll : l0.length = f.blocks.length := by have := congrArg List.length HCP.out.eq; simpa using this
  have hbpos : 0 < f.blocks.length := by obtain ⟨h1, _⟩ := fnOk_parts HV.out; exact h1
  have hrow := HCP.out.blks.row
  rw [hll] at hrow
  obtain ⟨gb, rfl, hlo, hhi, hcap⟩ := own_some hrow hbpos
  obtain ⟨Z, hZ⟩ : ∃ Z : World, w4.alloc (.cells #[.string f.name, .int .i64 f.regs, .slice na f.arrays.length nc, .slice (some ⟨gb, 0, none⟩) f.blocks.length mc] 25) = Z := ⟨_, rfl⟩
  have hz9 : w4.heap.size < Z.heap.size := by rw [← hZ]; simp
  have HBZ : Hid (Below w4.heap.size w4 Z) := by show Below _ _ _; rw [← hZ]; exact (Below.refl _ _).alloc (Nat.le_refl _) _
  have HZO : Hid (Z.heap[w4.heap.size]? = some (.cells #[.string f.name, .int .i64 f.regs, .slice na f.arrays.length nc, .slice (some ⟨gb, 0, none⟩) f.blocks.length mc] 25)) := by show _ = _; rw [← hZ]; exact heap_new _ _
  have HB5 := Lib.hid (below_next HB4.out HBZ.out)
  have HCZ := Lib.hid (HCP.out.keep HBZ.out)
  have HRZ : Hid (RenSt17 w3.heap.size w4.heap.size W f na nc gb mc Z l0) := ⟨HCZ.out.arrs, HCZ.out.blks, hll, HZO.out, HB5.out, HCZ.out.apart, fun p hp => HCZ.out.codes p hp⟩
  have HEQ : Hid (l0.map (fun q : BlkP => q.blk) = f.blocks) := HCP.out.eq
  have hW3 : W.heap.size ≤ w3.heap.size := HB3.out.size
  clear hrow hll
  go_wp2_with fail
  clear hZ
  go_loopw [15] (fun i wr => ∃ (j : Nat) (l : List BlkP), j ≤ f.blocks.length ∧ i = .int .i64 (j : Nat) ∧ l.map (fun q : BlkP => q.blk) = (f.blocks.take j).map (Blk.ren (fun r => (r + by_) % f.regs)) ++ f.blocks.drop j ∧ RenSt17 w3.heap.size w4.heap.size W f na nc gb mc wr l) (fun i _ => f.blocks.length - (intOf i).toNat)
  case atStart => exact ⟨0, l0, Nat.zero_le _, rfl, by simpa using HEQ.out, HRZ.out⟩
  case round =>
    obtain ⟨j, l, hj, rfl, hmap, hst⟩ := hrel
    have HMAP := Lib.hid hmap
    have HST := Lib.hid hst
    have hk0 : (0 : Int) ≤ (j : Int) := by omega
    have hBs := hst.bel.size
    have hzb := lt_heap hst.box
    have g3 := cell_heap hst.box 3
    simp only [List.getElem?_toArray, List.getElem?_cons_zero, List.getElem?_cons_succ] at g3
    clear hmap hst
    by_cases hlt : j < f.blocks.length
    · obtain ⟨b, hb⟩ : ∃ b, f.blocks[j]? = some b := ⟨_, List.getElem?_eq_getElem hlt⟩
      obtain ⟨p, hp, hpb⟩ := ren_blocks HMAP.out hb
      subst hpb
      have HP := Lib.hid hp
      have HB0 := Lib.hid hb
      have hk1 : (j : Int) < (f.blocks.length : Int) := by omega
      obtain ⟨⟨f0, f1, f2, f3, f4⟩, hfz⟩ := HST.out.blks.blkCells hp
      have hz2 := hfz (j * 5 + 2)
      have hbw := HFW.out.blocks.wf p.blk (List.mem_of_getElem? hb)
      have HBWf := Lib.hid hbw
      have hcl := HSM.out.2 p.blk (List.mem_of_getElem? hb)
      have hxr : p.blk.kind = 2 → 0 ≤ p.blk.x ∧ p.blk.x < f.regs := fun hk => by
        have := ends_ok17 HV.out p.blk (List.mem_of_getElem? hb)
        exact this hk
      have HXR := Lib.hid hxr
      obtain ⟨_, q1, _, _⟩ := fn_cells' HX.out HST.out.bel
      have qb := (HST.out.bel.cell (p := ⟨w.heap.size + 1, 0, none⟩) hnW2).trans (cell_heap HXB.out 0)
      simp only [List.getElem?_toArray, List.getElem?_cons_zero] at qb
      clear hp hb hfz hbw hxr
      -- the block's own register
      have hjl : j < l.length := by have := HST.out.len; omega
      have hsame : l.set j ⟨{ p.blk with x := p.blk.x }, p.a, p.c⟩ = l := by
        obtain ⟨h1, h2⟩ := List.getElem?_eq_some_iff.1 HP.out
        have : (⟨{ p.blk with x := p.blk.x }, p.a, p.c⟩ : BlkP) = l[j] := h2.symm
        rw [this]
        exact List.set_getElem_self h1
      have HSAME := Lib.hid hsame
      clear hsame
      by_cases hk2 : p.blk.kind = 2
      case' pos =>
        have hk2' : (p.blk.kind == 2) = true := by simpa using hk2
        obtain ⟨hx0, hx1⟩ := HXR.out hk2
        obtain ⟨x0, hx0e⟩ : ∃ x0, (p.blk.x + by_) % f.regs = x0 := ⟨_, rfl⟩
        have HXE : Hid (x0 = if p.blk.kind = 2 then (p.blk.x + by_) % f.regs else p.blk.x) := by show _ = _; rw [if_pos hk2, hx0e]
        have hx2 := HTV.out p.blk.x hx0 hx1
        rw [hx0e] at hx2
        obtain ⟨X0, hX0⟩ : ∃ X0 : World, wr.setCell ⟨gb, j * 5 + 2, none⟩ (.int .i64 x0) = X0 := ⟨_, rfl⟩
        have HX0 : Hid (RenSt17 w3.heap.size w4.heap.size W f na nc gb mc X0 (l.set j ⟨{ p.blk with x := x0 }, p.a, p.c⟩)) := by
          show RenSt17 _ _ _ _ _ _ _ _ _ _
          rw [← hX0]
          exact HST.out.setBlk (o := 2) (q := { p.blk with x := x0 }) hW3 HP.out (by omega) rfl ⟨HBWf.out.k0, HBWf.out.k1, hx2, HBWf.out.to, HBWf.out.els⟩ (by unfold BlkP.cells; simp)
        clear hx2 hk2
        go_wp2_with (go_at_call 24; ((with_reducible refine (to_any p.blk.x by_ f.regs (w.heap.size + 1) w.heap.size _ hx0 hx1 hn0 hn1 hrg2 (by assumption) (by assumption)).mono ?_); rintro e w' ⟨rfl, rfl⟩))
        clear hX0 hx0e hk2' hx0 hx1
      case' neg =>
        have hk2' : (p.blk.kind == 2) = false := by simpa using hk2
        obtain ⟨x0, hx0e⟩ : ∃ x0, p.blk.x = x0 := ⟨_, rfl⟩
        have HXE : Hid (x0 = if p.blk.kind = 2 then (p.blk.x + by_) % f.regs else p.blk.x) := by show _ = _; rw [if_neg hk2, hx0e]
        have HX0 : Hid (RenSt17 w3.heap.size w4.heap.size W f na nc gb mc wr (l.set j ⟨{ p.blk with x := x0 }, p.a, p.c⟩)) := by
          show RenSt17 _ _ _ _ _ _ _ _ _ _
          rw [← hx0e, HSAME.out]
          exact HST.out
        clear hk2 hx0e
        go_wp2_with fail
        clear hk2'
      all_goals
        clear f0 f1 f2 f3 f4 hz2 g3 q1 qb
        obtain ⟨wo, rfl⟩ : ∃ wo : World, wo = wr := ⟨_, rfl⟩
        go_loopw [17] (fun i wi => ∃ k : Nat, k ≤ p.blk.code.length ∧ i = .int .i64 (k : Nat) ∧ RenSt17 w3.heap.size w4.heap.size W f na nc gb mc wi (l.set j ⟨{ p.blk with x := x0, code := (p.blk.code.take k).map (Ins.ren (fun r => (r + by_) % f.regs)) ++ p.blk.code.drop k }, p.a, p.c⟩)) (fun i _ => p.blk.code.length - (intOf i).toNat)
        case atStart => exact ⟨0, Nat.zero_le _, rfl, by simpa using HX0.out⟩
        case round =>
          obtain ⟨k, hk, rfl, hsi⟩ := hrel
          have HSI := Lib.hid hsi
          have hm0 : (0 : Int) ≤ (k : Int) := by omega
          have hkj : (l.set j (BlkP.mk { p.blk with x := x0, code := (p.blk.code.take k).map (Ins.ren (fun r => (r + by_) % f.regs)) ++ p.blk.code.drop k } p.a p.c))[j]? = some (BlkP.mk { p.blk with x := x0, code := (p.blk.code.take k).map (Ins.ren (fun r => (r + by_) % f.regs)) ++ p.blk.code.drop k } p.a p.c) := by rw [List.getElem?_set_self hjl]
          have HKJ := Lib.hid hkj
          obtain ⟨⟨f0, _, _, _, _⟩, _⟩ := hsi.blks.blkCells hkj
          simp only at f0
          have hlen : ((p.blk.code.take k).map (Ins.ren (fun r => (r + by_) % f.regs)) ++ p.blk.code.drop k).length = p.blk.code.length := by simp; omega
          rw [hlen] at f0
          clear hsi hkj hlen
          by_cases hkl : k < p.blk.code.length
          · skip
            -- ROUND
            obtain ⟨q, hq⟩ : ∃ q, p.blk.code[k]? = some q := ⟨_, List.getElem?_eq_getElem hkl⟩
            have HQ := Lib.hid hq
            have hm3 : (k : Int) < (p.blk.code.length : Int) := by omega
            have HS0 : Hid (RenSt17 w3.heap.size w4.heap.size W f na nc gb mc wr (l.set j (RenP p x0 ((p.blk.code.take k).map (Ins.ren (fun r => (r + by_) % f.regs)) ++ p.blk.code.drop k)))) := HSI.out
            obtain ⟨cb, hpa, hclo, _⟩ := HSI.out.blks.insCells HKJ.out (ren_at hq)
            simp only at hpa
            rw [hpa] at f0
            have HPA := Lib.hid hpa
            obtain ⟨hchi, ⟨c0, c1, c2, c3, c4, c5⟩, _⟩ := HS0.out.cells hjl (ren_at hq) hpa
            have HVR := Lib.hid (fn_regs HV.out p.blk (List.mem_of_getElem? HB0.out) q (List.mem_of_getElem? hq))
            have HQW := Lib.hid (HFW.out.ops p.blk (List.mem_of_getElem? HB0.out) q (List.mem_of_getElem? hq))
            have hul3 : q.uses.length = 0 ∨ q.uses.length = 1 ∨ q.uses.length = 2 := by have := uses_len q; omega
            have QU : Hid (∀ W', Calls Try.prog 25 #[.agg #[.int .u8 q.op, .int .i64 q.dst, .int .i64 q.x, .int .i64 q.y, .int .i64 q.imm, .string q.sym]] W' (fun e w' => ∃ ua uc, e = .returned (.slice ua q.uses.length uc) ∧ Below W'.heap.size W' w')) := fun W' => (uses_any q W').mono fun e w' ⟨v, he, hv, hB⟩ => by
              obtain ⟨ua, uc, hv2, _⟩ := hv.form (by have := uses_len q; omega)
              exact ⟨ua, uc, by rw [he, hv2], hB⟩
            have QD : Hid (∀ W', Calls Try.prog 26 #[.agg #[.int .u8 q.op, .int .i64 q.dst, .int .i64 q.x, .int .i64 q.y, .int .i64 q.imm, .string q.sym]] W' (DefOk q W')) := fun W' => defines_any q W'
            unfold DefOk at QD
            obtain ⟨un, hun⟩ : ∃ n, q.uses.length = n := ⟨_, rfl⟩
            obtain ⟨dv, hdv⟩ : ∃ d, q.defines.isSome = d := ⟨_, rfl⟩
            have HUN := Lib.hid hun
            have HDV := Lib.hid hdv
            rw [hun] at QU hul3
            rw [hdv] at QD
            have HUL := Lib.hid hul3
            have hun2 : un ≤ 2 := by omega
            clear hun hdv hul3 hpa hq
            go_wp2_with fail
            refine (QU.out _).mono ?_
            rintro e w5 ⟨ua, uc, rfl, hB5⟩
            have HS5 := Lib.hid (HS0.out.keep hB5)
            clear hB5 f0 c0 c1 c2 c3 c4 c5
            obtain ⟨hchi5, ⟨c0, c1, c2, c3, c4, c5⟩, _⟩ := HS5.out.cells hjl (ren_at HQ.out) HPA.out
            go_wp2_with fail
            refine (QD.out _).mono ?_
            rintro e w6 ⟨rfl, hB6⟩
            have HS6 := Lib.hid (HS5.out.keep hB6)
            clear hB6 c0 c1 c2 c3 c4 c5
            have HLN : Hid (k < ((p.blk.code.take k).map (Ins.ren (fun r => (r + by_) % f.regs)) ++ p.blk.code.drop k).length) := (List.getElem?_eq_some_iff.1 (ren_at HQ.out)).1
            by_cases hdt : dv = true
            · skip
              by_cases hu : 0 < un
              · have hui : (0 : Int) < (un : Int) := by omega
                by_cases hv : 1 < un
                · have hvi : (1 : Int) < (un : Int) := by omega
                  obtain ⟨_, ⟨c00, c10, c20, c30, c40, c50⟩, hfz⟩ := HS6.out.cells hjl (ren_at HQ.out) HPA.out
                  have hza0 := hfz (k * 6 + 1)
                  have hzb0 := hfz (k * 6 + 2)
                  have hzc0 := hfz (k * 6 + 3)
                  obtain ⟨_, q10, _, _⟩ := fn_cells' HX.out HS6.out.bel
                  have qb0 := (HS6.out.bel.cell (p := ⟨w.heap.size + 1, 0, none⟩) hnW2).trans (cell_heap HXB.out 0)
                  simp only [List.getElem?_toArray, List.getElem?_cons_zero] at qb0
                  try simp only at c00 c10 c20 c30 c40 c50
                  clear hfz
                  obtain ⟨hr01, hr11⟩ := HVR.out.1 (by rw [HDV.out]; exact hdt)
                  obtain ⟨d1, hd1⟩ : ∃ d, (q.dst + by_) % f.regs = d := ⟨_, rfl⟩
                  have hw1 := HTV.out q.dst hr01 hr11
                  rw [hd1] at hw1
                  obtain ⟨X1, hX1⟩ : ∃ X1 : World, w6.setCell ⟨cb, k * 6 + 1, none⟩ (.int .i64 d1) = X1 := ⟨_, rfl⟩
                  have HT1 : Hid (RenSt17 w3.heap.size w4.heap.size W f na nc gb mc X1 (l.set j (RenP p x0 (((p.blk.code.take k).map (Ins.ren (fun r => (r + by_) % f.regs)) ++ p.blk.code.drop k).set k { q with dst := d1 })))) := by
                    show RenSt17 _ _ _ _ _ _ _ _ _ _
                    rw [← hX1]
                    exact HS6.out.one (o := 1) hW3 hjl (ren_at HQ.out) (by omega) ⟨HQW.out.op0, HQW.out.op1, hw1, HQW.out.x, HQW.out.y, HQW.out.imm, HQW.out.sym⟩ (by unfold Ins.cells; simp) HPA.out
                  have HD1 := Lib.hid hw1
                  have HE1 := Lib.hid hd1
                  clear hw1
                  obtain ⟨_, ⟨c01, c11, c21, c31, c41, c51⟩, hfz⟩ := HT1.out.cells hjl (set_at HLN.out) HPA.out
                  have hza1 := hfz (k * 6 + 1)
                  have hzb1 := hfz (k * 6 + 2)
                  have hzc1 := hfz (k * 6 + 3)
                  obtain ⟨_, q11, _, _⟩ := fn_cells' HX.out HT1.out.bel
                  have qb1 := (HT1.out.bel.cell (p := ⟨w.heap.size + 1, 0, none⟩) hnW2).trans (cell_heap HXB.out 0)
                  simp only [List.getElem?_toArray, List.getElem?_cons_zero] at qb1
                  try simp only at c01 c11 c21 c31 c41 c51
                  clear hfz
                  obtain ⟨hr02, hr12⟩ := HVR.out.2.1 (by rw [HUN.out]; exact hu)
                  obtain ⟨d2, hd2⟩ : ∃ d, (q.x + by_) % f.regs = d := ⟨_, rfl⟩
                  have hw1 := HTV.out q.x hr02 hr12
                  rw [hd2] at hw1
                  obtain ⟨X2, hX2⟩ : ∃ X2 : World, X1.setCell ⟨cb, k * 6 + 2, none⟩ (.int .i64 d2) = X2 := ⟨_, rfl⟩
                  have HT2 : Hid (RenSt17 w3.heap.size w4.heap.size W f na nc gb mc X2 (l.set j (RenP p x0 ((((p.blk.code.take k).map (Ins.ren (fun r => (r + by_) % f.regs)) ++ p.blk.code.drop k).set k { q with dst := d1 }).set k { q with dst := d1, x := d2 })))) := by
                    show RenSt17 _ _ _ _ _ _ _ _ _ _
                    rw [← hX2]
                    exact HT1.out.one (o := 2) hW3 hjl (set_at HLN.out) (by omega) ⟨HQW.out.op0, HQW.out.op1, HD1.out, hw1, HQW.out.y, HQW.out.imm, HQW.out.sym⟩ (by unfold Ins.cells; simp) HPA.out
                  have HD2 := Lib.hid hw1
                  have HE2 := Lib.hid hd2
                  clear hw1
                  obtain ⟨_, ⟨c02, c12, c22, c32, c42, c52⟩, hfz⟩ := HT2.out.cells hjl (set_at (by rw [List.length_set]; exact HLN.out)) HPA.out
                  have hza2 := hfz (k * 6 + 1)
                  have hzb2 := hfz (k * 6 + 2)
                  have hzc2 := hfz (k * 6 + 3)
                  obtain ⟨_, q12, _, _⟩ := fn_cells' HX.out HT2.out.bel
                  have qb2 := (HT2.out.bel.cell (p := ⟨w.heap.size + 1, 0, none⟩) hnW2).trans (cell_heap HXB.out 0)
                  simp only [List.getElem?_toArray, List.getElem?_cons_zero] at qb2
                  try simp only at c02 c12 c22 c32 c42 c52
                  clear hfz
                  obtain ⟨hr03, hr13⟩ := HVR.out.2.2 (by rw [HUN.out]; exact hv)
                  obtain ⟨d3, hd3⟩ : ∃ d, (q.y + by_) % f.regs = d := ⟨_, rfl⟩
                  have hw1 := HTV.out q.y hr03 hr13
                  rw [hd3] at hw1
                  obtain ⟨X3, hX3⟩ : ∃ X3 : World, X2.setCell ⟨cb, k * 6 + 3, none⟩ (.int .i64 d3) = X3 := ⟨_, rfl⟩
                  have HT3 : Hid (RenSt17 w3.heap.size w4.heap.size W f na nc gb mc X3 (l.set j (RenP p x0 (((((p.blk.code.take k).map (Ins.ren (fun r => (r + by_) % f.regs)) ++ p.blk.code.drop k).set k { q with dst := d1 }).set k { q with dst := d1, x := d2 }).set k { q with dst := d1, x := d2, y := d3 })))) := by
                    show RenSt17 _ _ _ _ _ _ _ _ _ _
                    rw [← hX3]
                    exact HT2.out.one (o := 3) hW3 hjl (set_at (by rw [List.length_set]; exact HLN.out)) (by omega) ⟨HQW.out.op0, HQW.out.op1, HD1.out, HD2.out, hw1, HQW.out.imm, HQW.out.sym⟩ (by unfold Ins.cells; simp) HPA.out
                  have HD3 := Lib.hid hw1
                  have HE3 := Lib.hid hd3
                  clear hw1
                  go_wp2_with (go_at_call 24; (first | ((with_reducible refine (to_any q.dst by_ f.regs (w.heap.size + 1) w.heap.size _ hr01 hr11 hn0 hn1 hrg2 (by assumption) (by assumption)).mono ?_); rintro e w' ⟨rfl, rfl⟩) | ((with_reducible refine (to_any q.x by_ f.regs (w.heap.size + 1) w.heap.size _ hr02 hr12 hn0 hn1 hrg2 (by assumption) (by assumption)).mono ?_); rintro e w' ⟨rfl, rfl⟩) | ((with_reducible refine (to_any q.y by_ f.regs (w.heap.size + 1) w.heap.size _ hr03 hr13 hn0 hn1 hrg2 (by assumption) (by assumption)).mono ?_); rintro e w' ⟨rfl, rfl⟩)))
                  clear c00 c10 c20 c30 c40 c50 hza0 hzb0 hzc0 q10 qb0 hX1
                  clear hd1 hr01 hr11 c01 c11 c21 c31 c41 c51 hza1 hzb1 hzc1
                  clear q11 qb1 hX2 hd2 hr02 hr12 c02 c12 c22 c32 c42 c52
                  clear hza2 hzb2 hzc2 q12 qb2 hX3 hd3 hr03 hr13
                  have HF : Hid (RenSt17 w3.heap.size w4.heap.size W f na nc gb mc X3 (l.set j ⟨{ p.blk with x := x0, code := (p.blk.code.take (k + 1)).map (Ins.ren (fun r => (r + by_) % f.regs)) ++ p.blk.code.drop (k + 1) }, p.a, p.c⟩)) := by
                    show RenSt17 _ _ _ _ _ _ _ _ _ _
                    have h1 := HT3.out
                    have e : ({ q with dst := d1, x := d2, y := d3 } : Ins) = q.ren (fun r => (r + by_) % f.regs) := by
                      unfold Ins.ren
                      rw [HUN.out, HDV.out, if_pos hdt, if_pos hu, if_pos hv]
                      dsimp only
                      rw [HE1.out, HE2.out, HE3.out]
                    rw [List.set_set, List.set_set, e, ren_step HQ.out] at h1
                    exact h1
                  go_roundw
                  case rel => exact ⟨k + 1, by omega, by go_num, HF.out⟩
                  case measure => simp [intOf]; omega
                · have hvi : ¬ (1 : Int) < (un : Int) := by omega
                  obtain ⟨_, ⟨c00, c10, c20, c30, c40, c50⟩, hfz⟩ := HS6.out.cells hjl (ren_at HQ.out) HPA.out
                  have hza0 := hfz (k * 6 + 1)
                  have hzb0 := hfz (k * 6 + 2)
                  have hzc0 := hfz (k * 6 + 3)
                  obtain ⟨_, q10, _, _⟩ := fn_cells' HX.out HS6.out.bel
                  have qb0 := (HS6.out.bel.cell (p := ⟨w.heap.size + 1, 0, none⟩) hnW2).trans (cell_heap HXB.out 0)
                  simp only [List.getElem?_toArray, List.getElem?_cons_zero] at qb0
                  try simp only at c00 c10 c20 c30 c40 c50
                  clear hfz
                  obtain ⟨hr01, hr11⟩ := HVR.out.1 (by rw [HDV.out]; exact hdt)
                  obtain ⟨d1, hd1⟩ : ∃ d, (q.dst + by_) % f.regs = d := ⟨_, rfl⟩
                  have hw1 := HTV.out q.dst hr01 hr11
                  rw [hd1] at hw1
                  obtain ⟨X1, hX1⟩ : ∃ X1 : World, w6.setCell ⟨cb, k * 6 + 1, none⟩ (.int .i64 d1) = X1 := ⟨_, rfl⟩
                  have HT1 : Hid (RenSt17 w3.heap.size w4.heap.size W f na nc gb mc X1 (l.set j (RenP p x0 (((p.blk.code.take k).map (Ins.ren (fun r => (r + by_) % f.regs)) ++ p.blk.code.drop k).set k { q with dst := d1 })))) := by
                    show RenSt17 _ _ _ _ _ _ _ _ _ _
                    rw [← hX1]
                    exact HS6.out.one (o := 1) hW3 hjl (ren_at HQ.out) (by omega) ⟨HQW.out.op0, HQW.out.op1, hw1, HQW.out.x, HQW.out.y, HQW.out.imm, HQW.out.sym⟩ (by unfold Ins.cells; simp) HPA.out
                  have HD1 := Lib.hid hw1
                  have HE1 := Lib.hid hd1
                  clear hw1
                  obtain ⟨_, ⟨c01, c11, c21, c31, c41, c51⟩, hfz⟩ := HT1.out.cells hjl (set_at HLN.out) HPA.out
                  have hza1 := hfz (k * 6 + 1)
                  have hzb1 := hfz (k * 6 + 2)
                  have hzc1 := hfz (k * 6 + 3)
                  obtain ⟨_, q11, _, _⟩ := fn_cells' HX.out HT1.out.bel
                  have qb1 := (HT1.out.bel.cell (p := ⟨w.heap.size + 1, 0, none⟩) hnW2).trans (cell_heap HXB.out 0)
                  simp only [List.getElem?_toArray, List.getElem?_cons_zero] at qb1
                  try simp only at c01 c11 c21 c31 c41 c51
                  clear hfz
                  obtain ⟨hr02, hr12⟩ := HVR.out.2.1 (by rw [HUN.out]; exact hu)
                  obtain ⟨d2, hd2⟩ : ∃ d, (q.x + by_) % f.regs = d := ⟨_, rfl⟩
                  have hw1 := HTV.out q.x hr02 hr12
                  rw [hd2] at hw1
                  obtain ⟨X2, hX2⟩ : ∃ X2 : World, X1.setCell ⟨cb, k * 6 + 2, none⟩ (.int .i64 d2) = X2 := ⟨_, rfl⟩
                  have HT2 : Hid (RenSt17 w3.heap.size w4.heap.size W f na nc gb mc X2 (l.set j (RenP p x0 ((((p.blk.code.take k).map (Ins.ren (fun r => (r + by_) % f.regs)) ++ p.blk.code.drop k).set k { q with dst := d1 }).set k { q with dst := d1, x := d2 })))) := by
                    show RenSt17 _ _ _ _ _ _ _ _ _ _
                    rw [← hX2]
                    exact HT1.out.one (o := 2) hW3 hjl (set_at HLN.out) (by omega) ⟨HQW.out.op0, HQW.out.op1, HD1.out, hw1, HQW.out.y, HQW.out.imm, HQW.out.sym⟩ (by unfold Ins.cells; simp) HPA.out
                  have HD2 := Lib.hid hw1
                  have HE2 := Lib.hid hd2
                  clear hw1
                  go_wp2_with (go_at_call 24; (first | ((with_reducible refine (to_any q.dst by_ f.regs (w.heap.size + 1) w.heap.size _ hr01 hr11 hn0 hn1 hrg2 (by assumption) (by assumption)).mono ?_); rintro e w' ⟨rfl, rfl⟩) | ((with_reducible refine (to_any q.x by_ f.regs (w.heap.size + 1) w.heap.size _ hr02 hr12 hn0 hn1 hrg2 (by assumption) (by assumption)).mono ?_); rintro e w' ⟨rfl, rfl⟩)))
                  clear c00 c10 c20 c30 c40 c50 hza0 hzb0 hzc0 q10 qb0 hX1
                  clear hd1 hr01 hr11 c01 c11 c21 c31 c41 c51 hza1 hzb1 hzc1
                  clear q11 qb1 hX2 hd2 hr02 hr12
                  have HF : Hid (RenSt17 w3.heap.size w4.heap.size W f na nc gb mc X2 (l.set j ⟨{ p.blk with x := x0, code := (p.blk.code.take (k + 1)).map (Ins.ren (fun r => (r + by_) % f.regs)) ++ p.blk.code.drop (k + 1) }, p.a, p.c⟩)) := by
                    show RenSt17 _ _ _ _ _ _ _ _ _ _
                    have h1 := HT2.out
                    have e : ({ q with dst := d1, x := d2 } : Ins) = q.ren (fun r => (r + by_) % f.regs) := by
                      unfold Ins.ren
                      rw [HUN.out, HDV.out, if_pos hdt, if_pos hu, if_neg hv]
                      dsimp only
                      rw [HE1.out, HE2.out]
                    rw [List.set_set, e, ren_step HQ.out] at h1
                    exact h1
                  go_roundw
                  case rel => exact ⟨k + 1, by omega, by go_num, HF.out⟩
                  case measure => simp [intOf]; omega
              · have hui : ¬ (0 : Int) < (un : Int) := by omega
                have hv : ¬ 1 < un := by omega
                have hvi : ¬ (1 : Int) < (un : Int) := by omega
                obtain ⟨_, ⟨c00, c10, c20, c30, c40, c50⟩, hfz⟩ := HS6.out.cells hjl (ren_at HQ.out) HPA.out
                have hza0 := hfz (k * 6 + 1)
                have hzb0 := hfz (k * 6 + 2)
                have hzc0 := hfz (k * 6 + 3)
                obtain ⟨_, q10, _, _⟩ := fn_cells' HX.out HS6.out.bel
                have qb0 := (HS6.out.bel.cell (p := ⟨w.heap.size + 1, 0, none⟩) hnW2).trans (cell_heap HXB.out 0)
                simp only [List.getElem?_toArray, List.getElem?_cons_zero] at qb0
                try simp only at c00 c10 c20 c30 c40 c50
                clear hfz
                obtain ⟨hr01, hr11⟩ := HVR.out.1 (by rw [HDV.out]; exact hdt)
                obtain ⟨d1, hd1⟩ : ∃ d, (q.dst + by_) % f.regs = d := ⟨_, rfl⟩
                have hw1 := HTV.out q.dst hr01 hr11
                rw [hd1] at hw1
                obtain ⟨X1, hX1⟩ : ∃ X1 : World, w6.setCell ⟨cb, k * 6 + 1, none⟩ (.int .i64 d1) = X1 := ⟨_, rfl⟩
                have HT1 : Hid (RenSt17 w3.heap.size w4.heap.size W f na nc gb mc X1 (l.set j (RenP p x0 (((p.blk.code.take k).map (Ins.ren (fun r => (r + by_) % f.regs)) ++ p.blk.code.drop k).set k { q with dst := d1 })))) := by
                  show RenSt17 _ _ _ _ _ _ _ _ _ _
                  rw [← hX1]
                  exact HS6.out.one (o := 1) hW3 hjl (ren_at HQ.out) (by omega) ⟨HQW.out.op0, HQW.out.op1, hw1, HQW.out.x, HQW.out.y, HQW.out.imm, HQW.out.sym⟩ (by unfold Ins.cells; simp) HPA.out
                have HD1 := Lib.hid hw1
                have HE1 := Lib.hid hd1
                clear hw1
                go_wp2_with (go_at_call 24; (first | ((with_reducible refine (to_any q.dst by_ f.regs (w.heap.size + 1) w.heap.size _ hr01 hr11 hn0 hn1 hrg2 (by assumption) (by assumption)).mono ?_); rintro e w' ⟨rfl, rfl⟩)))
                clear c00 c10 c20 c30 c40 c50 hza0 hzb0 hzc0 q10 qb0 hX1
                clear hd1 hr01 hr11
                have HF : Hid (RenSt17 w3.heap.size w4.heap.size W f na nc gb mc X1 (l.set j ⟨{ p.blk with x := x0, code := (p.blk.code.take (k + 1)).map (Ins.ren (fun r => (r + by_) % f.regs)) ++ p.blk.code.drop (k + 1) }, p.a, p.c⟩)) := by
                  show RenSt17 _ _ _ _ _ _ _ _ _ _
                  have h1 := HT1.out
                  have e : ({ q with dst := d1 } : Ins) = q.ren (fun r => (r + by_) % f.regs) := by
                    unfold Ins.ren
                    rw [HUN.out, HDV.out, if_pos hdt, if_neg hu, if_neg hv]
                    dsimp only
                    rw [HE1.out]
                  rw [e, ren_step HQ.out] at h1
                  exact h1
                go_roundw
                case rel => exact ⟨k + 1, by omega, by go_num, HF.out⟩
                case measure => simp [intOf]; omega
            · have hdf : dv = false := by simpa using hdt
              by_cases hu : 0 < un
              · have hui : (0 : Int) < (un : Int) := by omega
                by_cases hv : 1 < un
                · have hvi : (1 : Int) < (un : Int) := by omega
                  obtain ⟨_, ⟨c00, c10, c20, c30, c40, c50⟩, hfz⟩ := HS6.out.cells hjl (ren_at HQ.out) HPA.out
                  have hza0 := hfz (k * 6 + 1)
                  have hzb0 := hfz (k * 6 + 2)
                  have hzc0 := hfz (k * 6 + 3)
                  obtain ⟨_, q10, _, _⟩ := fn_cells' HX.out HS6.out.bel
                  have qb0 := (HS6.out.bel.cell (p := ⟨w.heap.size + 1, 0, none⟩) hnW2).trans (cell_heap HXB.out 0)
                  simp only [List.getElem?_toArray, List.getElem?_cons_zero] at qb0
                  try simp only at c00 c10 c20 c30 c40 c50
                  clear hfz
                  obtain ⟨hr02, hr12⟩ := HVR.out.2.1 (by rw [HUN.out]; exact hu)
                  obtain ⟨d2, hd2⟩ : ∃ d, (q.x + by_) % f.regs = d := ⟨_, rfl⟩
                  have hw1 := HTV.out q.x hr02 hr12
                  rw [hd2] at hw1
                  obtain ⟨X2, hX2⟩ : ∃ X2 : World, w6.setCell ⟨cb, k * 6 + 2, none⟩ (.int .i64 d2) = X2 := ⟨_, rfl⟩
                  have HT2 : Hid (RenSt17 w3.heap.size w4.heap.size W f na nc gb mc X2 (l.set j (RenP p x0 (((p.blk.code.take k).map (Ins.ren (fun r => (r + by_) % f.regs)) ++ p.blk.code.drop k).set k { q with x := d2 })))) := by
                    show RenSt17 _ _ _ _ _ _ _ _ _ _
                    rw [← hX2]
                    exact HS6.out.one (o := 2) hW3 hjl (ren_at HQ.out) (by omega) ⟨HQW.out.op0, HQW.out.op1, HQW.out.dst, hw1, HQW.out.y, HQW.out.imm, HQW.out.sym⟩ (by unfold Ins.cells; simp) HPA.out
                  have HD2 := Lib.hid hw1
                  have HE2 := Lib.hid hd2
                  clear hw1
                  obtain ⟨_, ⟨c02, c12, c22, c32, c42, c52⟩, hfz⟩ := HT2.out.cells hjl (set_at HLN.out) HPA.out
                  have hza2 := hfz (k * 6 + 1)
                  have hzb2 := hfz (k * 6 + 2)
                  have hzc2 := hfz (k * 6 + 3)
                  obtain ⟨_, q12, _, _⟩ := fn_cells' HX.out HT2.out.bel
                  have qb2 := (HT2.out.bel.cell (p := ⟨w.heap.size + 1, 0, none⟩) hnW2).trans (cell_heap HXB.out 0)
                  simp only [List.getElem?_toArray, List.getElem?_cons_zero] at qb2
                  try simp only at c02 c12 c22 c32 c42 c52
                  clear hfz
                  obtain ⟨hr03, hr13⟩ := HVR.out.2.2 (by rw [HUN.out]; exact hv)
                  obtain ⟨d3, hd3⟩ : ∃ d, (q.y + by_) % f.regs = d := ⟨_, rfl⟩
                  have hw1 := HTV.out q.y hr03 hr13
                  rw [hd3] at hw1
                  obtain ⟨X3, hX3⟩ : ∃ X3 : World, X2.setCell ⟨cb, k * 6 + 3, none⟩ (.int .i64 d3) = X3 := ⟨_, rfl⟩
                  have HT3 : Hid (RenSt17 w3.heap.size w4.heap.size W f na nc gb mc X3 (l.set j (RenP p x0 ((((p.blk.code.take k).map (Ins.ren (fun r => (r + by_) % f.regs)) ++ p.blk.code.drop k).set k { q with x := d2 }).set k { q with x := d2, y := d3 })))) := by
                    show RenSt17 _ _ _ _ _ _ _ _ _ _
                    rw [← hX3]
                    exact HT2.out.one (o := 3) hW3 hjl (set_at HLN.out) (by omega) ⟨HQW.out.op0, HQW.out.op1, HQW.out.dst, HD2.out, hw1, HQW.out.imm, HQW.out.sym⟩ (by unfold Ins.cells; simp) HPA.out
                  have HD3 := Lib.hid hw1
                  have HE3 := Lib.hid hd3
                  clear hw1
                  go_wp2_with (go_at_call 24; (first | ((with_reducible refine (to_any q.x by_ f.regs (w.heap.size + 1) w.heap.size _ hr02 hr12 hn0 hn1 hrg2 (by assumption) (by assumption)).mono ?_); rintro e w' ⟨rfl, rfl⟩) | ((with_reducible refine (to_any q.y by_ f.regs (w.heap.size + 1) w.heap.size _ hr03 hr13 hn0 hn1 hrg2 (by assumption) (by assumption)).mono ?_); rintro e w' ⟨rfl, rfl⟩)))
                  clear c00 c10 c20 c30 c40 c50 hza0 hzb0 hzc0 q10 qb0 hX2
                  clear hd2 hr02 hr12 c02 c12 c22 c32 c42 c52 hza2 hzb2 hzc2
                  clear q12 qb2 hX3 hd3 hr03 hr13
                  have HF : Hid (RenSt17 w3.heap.size w4.heap.size W f na nc gb mc X3 (l.set j ⟨{ p.blk with x := x0, code := (p.blk.code.take (k + 1)).map (Ins.ren (fun r => (r + by_) % f.regs)) ++ p.blk.code.drop (k + 1) }, p.a, p.c⟩)) := by
                    show RenSt17 _ _ _ _ _ _ _ _ _ _
                    have h1 := HT3.out
                    have e : ({ q with x := d2, y := d3 } : Ins) = q.ren (fun r => (r + by_) % f.regs) := by
                      unfold Ins.ren
                      rw [HUN.out, HDV.out, if_neg hdt, if_pos hu, if_pos hv]
                      dsimp only
                      rw [HE2.out, HE3.out]
                    rw [List.set_set, e, ren_step HQ.out] at h1
                    exact h1
                  go_roundw
                  case rel => exact ⟨k + 1, by omega, by go_num, HF.out⟩
                  case measure => simp [intOf]; omega
                · have hvi : ¬ (1 : Int) < (un : Int) := by omega
                  obtain ⟨_, ⟨c00, c10, c20, c30, c40, c50⟩, hfz⟩ := HS6.out.cells hjl (ren_at HQ.out) HPA.out
                  have hza0 := hfz (k * 6 + 1)
                  have hzb0 := hfz (k * 6 + 2)
                  have hzc0 := hfz (k * 6 + 3)
                  obtain ⟨_, q10, _, _⟩ := fn_cells' HX.out HS6.out.bel
                  have qb0 := (HS6.out.bel.cell (p := ⟨w.heap.size + 1, 0, none⟩) hnW2).trans (cell_heap HXB.out 0)
                  simp only [List.getElem?_toArray, List.getElem?_cons_zero] at qb0
                  try simp only at c00 c10 c20 c30 c40 c50
                  clear hfz
                  obtain ⟨hr02, hr12⟩ := HVR.out.2.1 (by rw [HUN.out]; exact hu)
                  obtain ⟨d2, hd2⟩ : ∃ d, (q.x + by_) % f.regs = d := ⟨_, rfl⟩
                  have hw1 := HTV.out q.x hr02 hr12
                  rw [hd2] at hw1
                  obtain ⟨X2, hX2⟩ : ∃ X2 : World, w6.setCell ⟨cb, k * 6 + 2, none⟩ (.int .i64 d2) = X2 := ⟨_, rfl⟩
                  have HT2 : Hid (RenSt17 w3.heap.size w4.heap.size W f na nc gb mc X2 (l.set j (RenP p x0 (((p.blk.code.take k).map (Ins.ren (fun r => (r + by_) % f.regs)) ++ p.blk.code.drop k).set k { q with x := d2 })))) := by
                    show RenSt17 _ _ _ _ _ _ _ _ _ _
                    rw [← hX2]
                    exact HS6.out.one (o := 2) hW3 hjl (ren_at HQ.out) (by omega) ⟨HQW.out.op0, HQW.out.op1, HQW.out.dst, hw1, HQW.out.y, HQW.out.imm, HQW.out.sym⟩ (by unfold Ins.cells; simp) HPA.out
                  have HD2 := Lib.hid hw1
                  have HE2 := Lib.hid hd2
                  clear hw1
                  go_wp2_with (go_at_call 24; (first | ((with_reducible refine (to_any q.x by_ f.regs (w.heap.size + 1) w.heap.size _ hr02 hr12 hn0 hn1 hrg2 (by assumption) (by assumption)).mono ?_); rintro e w' ⟨rfl, rfl⟩)))
                  clear c00 c10 c20 c30 c40 c50 hza0 hzb0 hzc0 q10 qb0 hX2
                  clear hd2 hr02 hr12
                  have HF : Hid (RenSt17 w3.heap.size w4.heap.size W f na nc gb mc X2 (l.set j ⟨{ p.blk with x := x0, code := (p.blk.code.take (k + 1)).map (Ins.ren (fun r => (r + by_) % f.regs)) ++ p.blk.code.drop (k + 1) }, p.a, p.c⟩)) := by
                    show RenSt17 _ _ _ _ _ _ _ _ _ _
                    have h1 := HT2.out
                    have e : ({ q with x := d2 } : Ins) = q.ren (fun r => (r + by_) % f.regs) := by
                      unfold Ins.ren
                      rw [HUN.out, HDV.out, if_neg hdt, if_pos hu, if_neg hv]
                      dsimp only
                      rw [HE2.out]
                    rw [e, ren_step HQ.out] at h1
                    exact h1
                  go_roundw
                  case rel => exact ⟨k + 1, by omega, by go_num, HF.out⟩
                  case measure => simp [intOf]; omega
              · have hui : ¬ (0 : Int) < (un : Int) := by omega
                have hv : ¬ 1 < un := by omega
                have hvi : ¬ (1 : Int) < (un : Int) := by omega
                go_wp2_with fail
                have HF : Hid (RenSt17 w3.heap.size w4.heap.size W f na nc gb mc w6 (l.set j ⟨{ p.blk with x := x0, code := (p.blk.code.take (k + 1)).map (Ins.ren (fun r => (r + by_) % f.regs)) ++ p.blk.code.drop (k + 1) }, p.a, p.c⟩)) := by
                  show RenSt17 _ _ _ _ _ _ _ _ _ _
                  have h1 := HS6.out
                  have e : (q : Ins) = q.ren (fun r => (r + by_) % f.regs) := by
                    unfold Ins.ren
                    rw [HUN.out, HDV.out, if_neg hdt, if_neg hu, if_neg hv]
                    first | done | rfl
                  rw [← set_same (ren_at HQ.out), e, ren_step HQ.out] at h1
                  exact h1
                go_roundw
                case rel => exact ⟨k + 1, by omega, by go_num, HF.out⟩
                case measure => simp [intOf]; omega
            -- ROUNDEND
          · obtain rfl : k = p.blk.code.length := by omega
            have HMN : Hid ((l.set j (BlkP.mk { p.blk with x := x0, code := (p.blk.code.take p.blk.code.length).map (Ins.ren (fun r => (r + by_) % f.regs)) ++ p.blk.code.drop p.blk.code.length } p.a p.c)).map (fun q : BlkP => q.blk) = (f.blocks.take (j + 1)).map (Blk.ren (fun r => (r + by_) % f.regs)) ++ f.blocks.drop (j + 1)) := by
              refine ren_next HMAP.out HB0.out ?_
              unfold Blk.ren
              rw [HXE.out]
              simp
            go_wp2_with fail
            go_roundw
            case rel => exact ⟨j + 1, _, by omega, by go_num, HMN.out, HSI.out⟩
            case measure => simp [intOf]; omega
    · obtain rfl : j = f.blocks.length := by omega
      have hmapn : l.map (fun q : BlkP => q.blk) = f.blocks.map (Blk.ren (fun r => (r + by_) % f.regs)) := by have := HMAP.out; rw [List.take_length, List.drop_length, List.append_nil] at this; exact this
      have HFG : Hid (FnAt wr (f.ren (fun r => (r + by_) % f.regs)) na (some ⟨gb, 0, none⟩)) := HST.out.fnAt hmapn HF.out.regs HF.out.name HF.out.arrays.sizes HF.out.arrays.fits HF.out.blocks.fits
      have hgl : (f.ren (fun r => (r + by_) % f.regs)).blocks.length = f.blocks.length := by simp [Fn.ren]
      have HBR := Lib.hid HST.out.bel
      obtain ⟨o1, ho1⟩ : ∃ o, runOf f shared arrays objects inp 400 = o := ⟨_, rfl⟩
      have QV : Hid (∀ W', Below wr.heap.size wr W' → Calls Try.prog 12 #[fnVal f.name f.regs na f.arrays.length nc (some ⟨gb, 0, none⟩) f.blocks.length mc, .slice sa shared.length sc] W' fun e w' => e = .returned (.bool true) ∧ Below W'.heap.size W' w') := fun W' h => by
        have := valid_any (f.ren (fun r => (r + by_) % f.regs)) shared na (some ⟨gb, 0, none⟩) sa nc mc sc W' (HFG.out.below h) (HSW.out.below (below_next HBR.out h)) (by omega)
        rw [fnOk_ren HREN.out HV.out, hgl] at this
        exact this
      have QF : Hid (∀ W', Below wr.heap.size wr W' → Calls Try.prog 17 #[fnVal f.name f.regs aa f.arrays.length ac ba f.blocks.length bc, .slice sa shared.length sc, .slice ara arrays.length arc, .slice oba objects.length obc, .slice ia inp.length ic, .int .i64 400] W' fun e w' => ∃ v, e = .returned v ∧ OcAt w' v o1 ∧ Below W'.heap.size W' w') := fun W' h => by
        have hbw := below_next HBR.out h
        have := run_any f shared arrays objects inp 400 aa ba sa ara oba ia ac bc sc arc obc ic W' (HFW.out.below hbw) (HSW.out.below hbw) (by omega) (HAW.out.below hbw) (HOW.out.below hbw) HC1.out HC2.out (HIW.out.below hbw) (by decide)
        rw [ho1] at this
        exact this
      have QG : Hid (∀ W', Below wr.heap.size wr W' → Calls Try.prog 17 #[fnVal f.name f.regs na f.arrays.length nc (some ⟨gb, 0, none⟩) f.blocks.length mc, .slice sa shared.length sc, .slice ara arrays.length arc, .slice oba objects.length obc, .slice ia inp.length ic, .int .i64 400] W' fun e w' => ∃ v, e = .returned v ∧ OcAt w' v o1 ∧ Below W'.heap.size W' w') := fun W' h => by
        have hbw := below_next HBR.out h
        have := run_any (f.ren (fun r => (r + by_) % f.regs)) shared arrays objects inp 400 na (some ⟨gb, 0, none⟩) sa ara oba ia nc mc sc arc obc ic W' (HFG.out.below h) (HSW.out.below hbw) (by omega) (HAW.out.below hbw) (HOW.out.below hbw) HC1.out HC2.out (HIW.out.below hbw) (by decide)
        rw [run_ren HREN.out HV.out, ho1, hgl] at this
        exact this
      have HKC : Hid (∀ W', Below wr.heap.size wr W' → W'.cell? ⟨w.heap.size, 0, none⟩ = some (.string f.name) ∧ W'.cell? ⟨w.heap.size, 1, none⟩ = some (.int .i64 f.regs) ∧ W'.cell? ⟨w.heap.size, 2, none⟩ = some (.slice aa f.arrays.length ac) ∧ W'.cell? ⟨w.heap.size, 3, none⟩ = some (.slice ba f.blocks.length bc) ∧
          W'.cell? ⟨w4.heap.size, 0, none⟩ = some (.string f.name) ∧ W'.cell? ⟨w4.heap.size, 1, none⟩ = some (.int .i64 f.regs) ∧ W'.cell? ⟨w4.heap.size, 2, none⟩ = some (.slice na f.arrays.length nc) ∧ W'.cell? ⟨w4.heap.size, 3, none⟩ = some (.slice (some ⟨gb, 0, none⟩) f.blocks.length mc) ∧ Below wr.heap.size wr W') := fun W' h => by
        obtain ⟨a0, a1, a2, a3⟩ := fn_cells' HX.out (below_next HBR.out h)
        obtain ⟨b0, b1, b2, b3⟩ := fn_cells' HST.out.box h
        exact ⟨a0, a1, a2, a3, b0, b1, b2, b3, h⟩
      clear hmapn hgl ho1
      go_wp2_with fail
      clear g3
      obtain ⟨a0, a1, a2, a3, b0, b1, b2, b3, hb0⟩ := HKC.out wr (Below.refl _ _)
      go_region_held3 (fun W' => W'.cell? ⟨w.heap.size, 0, none⟩ = some (.string f.name) ∧ W'.cell? ⟨w.heap.size, 1, none⟩ = some (.int .i64 f.regs) ∧ W'.cell? ⟨w.heap.size, 2, none⟩ = some (.slice aa f.arrays.length ac) ∧ W'.cell? ⟨w.heap.size, 3, none⟩ = some (.slice ba f.blocks.length bc) ∧
          W'.cell? ⟨w4.heap.size, 0, none⟩ = some (.string f.name) ∧ W'.cell? ⟨w4.heap.size, 1, none⟩ = some (.int .i64 f.regs) ∧ W'.cell? ⟨w4.heap.size, 2, none⟩ = some (.slice na f.arrays.length nc) ∧ W'.cell? ⟨w4.heap.size, 3, none⟩ = some (.slice (some ⟨gb, 0, none⟩) f.blocks.length mc) ∧ Below wr.heap.size wr W')
        (first | (go_split_ands; exact HKC.out _ (below_next (by assumption) hB9)) | (go_split_ands; exact HKC.out _ (below_drawn (by assumption))) | (go_split_ands; exact HKC.out _ (by assumption)))
        (first
          | (go_at_call 12; go_split_ands; refine (QV.out _ (by assumption)).mono ?_; rintro e w9 ⟨rfl, hB9⟩)
          | (go_at_call 17; go_split_ands; ((with_reducible refine (QF.out _ (by assumption)).mono ?_); rintro e w9 ⟨v1, rfl, hoc1, hB9⟩))
          | (go_at_call 17; go_split_ands; ((with_reducible refine (QG.out _ (by assumption)).mono ?_); rintro e w9 ⟨v2, rfl, hoc2, hB9⟩))
          | (go_at_call 22; go_split_ands; refine (equal_eq o1 _ _ _ (by first | exact hoc1 | exact hoc1.below hB9) (by first | exact hoc2 | exact hoc2.below hB9)).mono ?_; rintro e w9 ⟨rfl, hB9⟩))
      all_goals
        go_split_ands
        rename Below wr.heap.size wr _ => hBQ
        have HBQ := Lib.hid (below_next HBR.out hBQ)
        go_wp2_with fail
        go_ret
        exact ⟨rfl, HBW.out.trans (HBQ.out.mono (by omega))⟩
end Go.Proofs.Ytjdfcpjlmfaaaaa
