/-
  Contract: solve (package liveness).
-/
import Derived.Test.YteknhnnlhhgppaaDoorLivePre
import Derived.Test.YteknhnnlhhgppaaDoorIrPlain
import Derived.StillTailTactics
namespace Go.Proofs.YteknhnnlhhgppaaDoor
set_option linter.unusedVariables false
set_option linter.unusedSimpArgs false
open Go.RowKit
set_option maxRecDepth 100000
set_option maxHeartbeats 16000000

/-- what solve leaves -/
def SolEnd (f : Fn) (R : Nat) (w : World) (e : Ending) (w' : World) : Prop :=
  ∃ iv ov pv wv kv ins outs prev wait work, e = .returned (.tuple #[iv, ov]) ∧ SolSt w.heap.size R w' iv ov pv wv kv ins outs prev wait work ∧ Sol f R (ins.map (·.2)) (outs.map (·.2)) ∧ Below w.heap.size w w'
/-- rows and sets between two blocks -/
def SolB (f : Fn) (R B : Nat) (W : World) (pv wv : Value) (j : Nat) (iv ov kv : Value) (wr : World) : Prop :=
  ∃ ins outs prev, SolSt B R wr iv ov pv wv kv ins outs prev (List.replicate j true ++ List.replicate (f.blocks.length - j) false) (List.range j) ∧ ins.map (·.2) = List.replicate j 0 ∧ outs.map (·.2) = List.replicate j 0 ∧ PrevUp f j 0 (prev.map (·.2)) ∧ Below W.heap.size W wr
/-- the lists behind the rows -/
structure SolW where
  ins : List (Value × Nat)
  outs : List (Value × Nat)
  wait : List Bool
  work : List Nat
/-- the worklist and its rows -/
def SolG (f : Fn) (R B : Nat) (W : World) (iv ov pv wv : Value) (prev : List (Value × List Nat)) (kv : Value) (wr : World) (g : SolW) : Prop :=
  SolSt B R wr iv ov pv wv kv g.ins g.outs prev g.wait g.work ∧ WorkX f R (fun _ => False) (g.ins.map (·.2)) (g.outs.map (·.2)) g.work g.wait ∧ Below W.heap.size W wr
theorem solve_any (f : Fn) (R : Nat) (aa ba : Option Addr) (ac bc : Nat) (w : World) (hf : FnAt w f aa ba) (hF : FormR f R) (hbl : f.blocks.length ≤ 1000) (hcl : ∀ b ∈ f.blocks, b.code.length ≤ 1000000) :
    Calls Tryd.prog 41 #[fnVal f.name f.regs aa f.arrays.length ac ba f.blocks.length bc] w (SolEnd f R w) := by
  have HF := Lib.hid hf
  have HFM := Lib.hid hF
  have HCL := Lib.hid hcl
  have hregs := hF.regs
  have hR := hF.few
  obtain ⟨n, hn⟩ : ∃ n, f.blocks.length = n := ⟨_, rfl⟩
  have HN := Lib.hid hn
  have HREGS := Lib.hid hregs
  rw [hn] at hbl
  rw [hn, hregs]
  obtain ⟨W, hW⟩ : ∃ W : World, w.alloc (.cells #[.string f.name, .int .i64 (R : Int), .slice aa f.arrays.length ac, .slice ba n bc] 25) = W := ⟨_, rfl⟩
  have hWs : W.heap.size = w.heap.size + 1 := by rw [← hW]; simp
  have HWS := Lib.hid hWs
  have HBW : Hid (Below w.heap.size w W) := by show Below _ _ _; rw [← hW]; exact (Below.refl _ _).alloc (Nat.le_refl _) _
  have HX : Hid (W.heap[w.heap.size]? = some (.cells #[.string f.name, .int .i64 (R : Int), .slice aa f.arrays.length ac, .slice ba n bc] 25)) := by
    show _ = _
    rw [← hW]
    exact (MapKept.heap_alloc w _).1
  obtain ⟨x0, x1, x2, x3⟩ : W.cell? ⟨w.heap.size, 0, none⟩ = some (.string f.name) ∧ W.cell? ⟨w.heap.size, 1, none⟩ = some (.int .i64 (R : Int)) ∧ W.cell? ⟨w.heap.size, 2, none⟩ = some (.slice aa f.arrays.length ac) ∧ W.cell? ⟨w.heap.size, 3, none⟩ = some (.slice ba n bc) := ⟨cell_heap HX.out 0, cell_heap HX.out 1, cell_heap HX.out 2, cell_heap HX.out 3⟩
  have hm1 := make_ints n (by omega)
  have hm2 := make_bools n (by omega)
  obtain ⟨W2, hW2⟩ : ∃ W2 : World, W.alloc (.cells (Array.replicate n (Value.slice none 0 0)) 39) = W2 := ⟨_, rfl⟩
  obtain ⟨W3, hW3⟩ : ∃ W3 : World, W2.alloc (.cells (Array.replicate n (Value.bool false)) 4) = W3 := ⟨_, rfl⟩
  have HB2 : Hid (Below W.heap.size W W2) := by show Below _ _ _; rw [← hW2]; exact (Below.refl _ _).alloc (Nat.le_refl _) _
  have hW2s : W2.heap.size = W.heap.size + 1 := by rw [← hW2]; simp
  have HB3 : Hid (Below W.heap.size W W3) := by show Below _ _ _; rw [← hW3]; exact HB2.out.alloc (by omega) _
  have HS3 : Hid (SolSt W.heap.size R W3 (.slice none 0 0) (.slice none 0 0) (.slice (some ⟨W.heap.size, 0, none⟩) n n) (.slice (some ⟨W2.heap.size, 0, none⟩) n n) (.slice none 0 0) [] [] (List.replicate n (.slice none 0 0, [])) (List.replicate n false) []) := by
    have := SolSt.start (B := W.heap.size) (R := R) (w := W) (n := n) (by omega) (Nat.le_refl _)
    rw [hW2, hW3, ← hW2s] at this
    exact this
  have y3 := (HB2.out.cell (p := ⟨w.heap.size, 3, none⟩) (by show w.heap.size < _; omega)).trans x3
  have z3 := (HB3.out.cell (p := ⟨w.heap.size, 3, none⟩) (by show w.heap.size < _; omega)).trans x3
  have hn0 : (0 : Int) ≤ (n : Int) := by omega
  clear hf hF hcl hW2s hn hregs hWs
  go_enter Tryd.func41, Tryd.ntmps41
  go_wp2_with fail
  clear hm1 hm2 hW hW2 hW3
  go_loopw [2, 3, 6, 30] (fun iv ov kv i wr => ∃ j : Nat, j ≤ n ∧ i = .int .i64 (j : Int) ∧ SolB f R W.heap.size W (.slice (some ⟨W.heap.size, 0, none⟩) n n) (.slice (some ⟨W2.heap.size, 0, none⟩) n n) j iv ov kv wr) (fun _ _ _ i _ => n - (intOf i).toNat)
  case atStart =>
    refine ⟨0, Nat.zero_le _, rfl, [], [], List.replicate n (.slice none 0 0, []), ?_, rfl, rfl, ?_, HB3.out⟩
    · rw [HN.out]
      simpa using HS3.out
    · have := PrevUp.start (f := f)
      rw [HN.out] at this
      simpa using this
  case round =>
    obtain ⟨j, hj, rfl, ins, outs, prev, hst, hins, houts, hprev, hbel⟩ := hrel
    have HST := Lib.hid hst
    have HINS := Lib.hid hins
    have HOUTS := Lib.hid houts
    have HPREV := Lib.hid hprev
    have HBEL := Lib.hid hbel
    have hsz := hbel.size
    have hil : ins.length = j := by have := congrArg List.length hins; simpa using this
    have hol : outs.length = j := by have := congrArg List.length houts; simpa using this
    have HL := Lib.hid (And.intro hil hol)
    have hj0 : (0 : Int) ≤ (j : Int) := by omega
    clear hst hins houts hprev hbel hil hol
    by_cases hlt : j < n
    · skip
      -- FILL
      have hlt2 : (j : Int) < (n : Int) := by omega
      obtain ⟨b, hb⟩ : ∃ b, f.blocks[j]? = some b := ⟨_, List.getElem?_eq_getElem (by rw [HN.out]; exact hlt)⟩
      have HB := Lib.hid hb
      rcases HF.out.blocks.at_ with h0 | ⟨bb, off, rfl, hk⟩
      · have := HN.out; omega
      obtain ⟨ca, cc, hba, hcode⟩ := hk j b hb
      obtain ⟨c0, c1, c2, c3, c4⟩ := hba.below (HBW.out.trans (HBEL.out.mono HBW.out.size))
      obtain ⟨V1, hV1⟩ : ∃ V1 : World, wr.alloc (.cells #[.slice ca b.code.length cc, .int .u8 b.kind, .int .i64 b.x, .int .i64 b.to, .int .i64 b.els] 43) = V1 := ⟨_, rfl⟩
      have HBV1 : Hid (Below wr.heap.size wr V1) := by show Below _ _ _; rw [← hV1]; exact (Below.refl _ _).alloc (Nat.le_refl _) _
      have HZ1 : Hid (V1.heap[wr.heap.size]? = some (.cells #[.slice ca b.code.length cc, .int .u8 b.kind, .int .i64 b.x, .int .i64 b.to, .int .i64 b.els] 43)) := by
        show _ = _
        rw [← hV1]
        exact (MapKept.heap_alloc wr _).1
      have HBW1 : Hid (Below W.heap.size W V1) := below_step HBEL.out HBV1.out
      have HX1 : Hid (∀ w', Below W.heap.size W w' → w'.cell? ⟨w.heap.size, 1, none⟩ = some (.int .i64 (R : Int)) ∧ w'.cell? ⟨w.heap.size, 3, none⟩ = some (.slice (some ⟨bb, off, none⟩) n bc)) := fun w' h =>
        ⟨(h.cell (p := ⟨w.heap.size, 1, none⟩) (by have := HWS.out; show w.heap.size < _; omega)).trans (cell_heap HX.out 1), (h.cell (p := ⟨w.heap.size, 3, none⟩) (by have := HWS.out; show w.heap.size < _; omega)).trans (cell_heap HX.out 3)⟩
      have HV1 := Lib.hid (HST.out.keep HBV1.out)
      obtain ⟨iva, ivc, rfl⟩ := ownsRow_val HST.out.io
      obtain ⟨ova, ovc, rfl⟩ := ownsRow_val HST.out.oo
      obtain ⟨kva, kvc, rfl⟩ := HST.out.ko.valR
      clear hk hba hcode hb x0 x1 x2 x3 y3 z3
      obtain ⟨e1, e3⟩ := HX1.out V1 HBW1.out
      go_wp2_with fail
      refine (empty_any R _ hR).mono ?_
      rintro e w1 ⟨u1, rfl, hu, hB⟩
      obtain ⟨ua1, uc1, rfl⟩ := ownsRow_val hu.row
      have HU1 := Lib.hid (hu.base (B' := W.heap.size) HBW1.out.size)
      have HF1 := Lib.hid (HV1.out.fresh hu)
      have HB1 := Lib.hid hB
      obtain ⟨V2, hV2⟩ : ∃ V2 : World, w1.alloc (.cells #[.slice ua1 (nw R) uc1] 86) = V2 := ⟨_, rfl⟩
      have HBV2 : Hid (Below w1.heap.size w1 V2) := by show Below _ _ _; rw [← hV2]; exact (Below.refl _ _).alloc (Nat.le_refl _) _
      have hc9 : V2.cell? ⟨w1.heap.size, 0, none⟩ = some (.slice ua1 (nw R) uc1) := by rw [← hV2]; exact World.cell?_alloc_new _ _ _ 0
      have HC2 := Lib.hid hc9
      have HSV2 := Lib.hid ((HV1.out.keep hB).keep HBV2.out)
      have HUV2 := Lib.hid (HU1.out.keep HBV2.out)
      have HBW2 : Hid (Below W.heap.size W V2) := below_step (below_step HBW1.out hB) HBV2.out
      have HZ2 : Hid (V2.heap[wr.heap.size]? = some (.cells #[.slice ca b.code.length cc, .int .u8 b.kind, .int .i64 b.x, .int .i64 b.to, .int .i64 b.els] 43)) := (HBV2.out.block _ (lt_heap ((hB.block _ (lt_heap HZ1.out)).trans HZ1.out))).trans ((hB.block _ (lt_heap HZ1.out)).trans HZ1.out)
      clear hu hB hc9 e1 e3
      go_wp2_with (at_builtin; (refine wpList_append_set _ ?g1x1 (.tmp 35) (.tmp 39) ?g2x1 W.heap.size ins.length ?vx1 (ins.map (·.1)) w1.heap.size ua1 (nw R) uc1 ?a1x1 ?a2x1 ?a3x1 ?a4x1 ?a5x1 ?a6x1 ?_))
      case g1x1 => rfl
      case g2x1 => rfl
      case a1x1 => rfl
      case a2x1 => rfl
      case a3x1 => exact HSV2.out.io
      case a4x1 => exact HC2.out
      case a5x1 => have := HL.out; omega
      case a6x1 => exact HBW2.out.size
      clear hV2
      intro iv2 w2 hn hg hp
      have HST2 := Lib.hid (HSV2.out.addIn HUV2.out (fun q hq => (HF1.out.2 q hq).symm) hg hn hp)
      have HBX2 : Hid (Below W.heap.size W w2) := HBW2.out.grown hg HBW2.out.size (fun k hk => (ownsRow_lt HSV2.out.io hk).1)
      have HZX2 : Hid (w2.heap[wr.heap.size]? = some (.cells #[.slice ca b.code.length cc, .int .u8 b.kind, .int .i64 b.x, .int .i64 b.to, .int .i64 b.els] 43)) := block_other HSV2.out.io HZ2.out (by decide) (Turn.grown hg)
      obtain ⟨iva2, ivc2, rfl⟩ := ownsRow_val hn
      clear hn hg hp
      clear hV1 c0 c1 c2 c3 c4
      obtain ⟨e1, e3⟩ := HX1.out w2 HBX2.out
      go_wp2_with fail
      refine (empty_any R _ hR).mono ?_
      rintro e w3 ⟨u3, rfl, hu, hB⟩
      obtain ⟨ua3, uc3, rfl⟩ := ownsRow_val hu.row
      have HU3 := Lib.hid (hu.base (B' := W.heap.size) HBX2.out.size)
      have HF3 := Lib.hid (HST2.out.fresh hu)
      have HB3 := Lib.hid hB
      obtain ⟨V4, hV4⟩ : ∃ V4 : World, w3.alloc (.cells #[.slice ua3 (nw R) uc3] 86) = V4 := ⟨_, rfl⟩
      have HBV4 : Hid (Below w3.heap.size w3 V4) := by show Below _ _ _; rw [← hV4]; exact (Below.refl _ _).alloc (Nat.le_refl _) _
      have hc9 : V4.cell? ⟨w3.heap.size, 0, none⟩ = some (.slice ua3 (nw R) uc3) := by rw [← hV4]; exact World.cell?_alloc_new _ _ _ 0
      have HC4 := Lib.hid hc9
      have HSV4 := Lib.hid ((HST2.out.keep hB).keep HBV4.out)
      have HUV4 := Lib.hid (HU3.out.keep HBV4.out)
      have HBW4 : Hid (Below W.heap.size W V4) := below_step (below_step HBX2.out hB) HBV4.out
      have HZ4 : Hid (V4.heap[wr.heap.size]? = some (.cells #[.slice ca b.code.length cc, .int .u8 b.kind, .int .i64 b.x, .int .i64 b.to, .int .i64 b.els] 43)) := (HBV4.out.block _ (lt_heap ((hB.block _ (lt_heap HZX2.out)).trans HZX2.out))).trans ((hB.block _ (lt_heap HZX2.out)).trans HZX2.out)
      clear hu hB hc9 e1 e3
      go_wp2_with (at_builtin; (refine wpList_append_set _ ?g1x3 (.tmp 41) (.tmp 45) ?g2x3 W.heap.size outs.length ?vx3 (outs.map (·.1)) w3.heap.size ua3 (nw R) uc3 ?a1x3 ?a2x3 ?a3x3 ?a4x3 ?a5x3 ?a6x3 ?_))
      case g1x3 => rfl
      case g2x3 => rfl
      case a1x3 => rfl
      case a2x3 => rfl
      case a3x3 => exact HSV4.out.oo
      case a4x3 => exact HC4.out
      case a5x3 => have := HL.out; omega
      case a6x3 => exact HBW4.out.size
      clear hV4
      intro ov4 w4 hn hg hp
      have HST4 := Lib.hid (HSV4.out.addOut HUV4.out (fun q hq => HF3.out.1 q hq) (fun q hq => HF3.out.2 q hq) hg hn hp)
      have HBX4 : Hid (Below W.heap.size W w4) := HBW4.out.grown hg HBW4.out.size (fun k hk => (ownsRow_lt HSV4.out.oo hk).1)
      have HZX4 : Hid (w4.heap[wr.heap.size]? = some (.cells #[.slice ca b.code.length cc, .int .u8 b.kind, .int .i64 b.x, .int .i64 b.to, .int .i64 b.els] 43)) := block_other HSV4.out.oo HZ4.out (by decide) (Turn.grown hg)
      obtain ⟨ova4, ovc4, rfl⟩ := ownsRow_val hn
      clear hn hg hp
      obtain ⟨c0, c1, c2, c3, c4⟩ := five_cells HZX4.out
      go_wp2_with fail
      refine (succ_any b ca cc _).mono ?_
      rintro e w5 ⟨su, rfl, hS, hB⟩
      have HST5 := Lib.hid (HST4.out.keep hB)
      have HBX5 : Hid (Below W.heap.size W w5) := below_step HBX4.out hB
      have hs45 := hB.size
      have HSU := Lib.hid (hS.move (S' := fun k => w4.heap.size ≤ k ∧ k < w5.heap.size) (Nat.le_refl _) (fun _ _ _ => rfl) (fun k h1 h2 => ⟨h1, h2⟩))
      obtain ⟨sa, sc, rfl⟩ : ∃ sa sc, su = .slice sa b.succ.length sc := by
        rcases hS with ⟨h1, h2⟩ | ⟨b', off', cap, h2, _⟩
        · exact ⟨none, 0, by rw [h2, h1]; rfl⟩
        · exact ⟨_, _, h2⟩
      have hsl := succ_two b
      obtain ⟨sn, hsn⟩ : ∃ m, b.succ.length = m := ⟨_, rfl⟩
      have HSN := Lib.hid hsn
      rw [hsn] at hsl HSU ⊢
      have HOLD : Hid (∀ p ∈ prev, ∀ k, p.1.ownBlock = some k → k < w4.heap.size ∨ w5.heap.size ≤ k) := fun p hp k hk => .inl ((HST4.out.pi p hp).own hk).2
      have HBR := HFM.out.blk b (List.mem_of_getElem? HB.out)
      have HBRK := Lib.hid HBR
      clear hS hB hsn c0 c1 c2 c3 c4 HBR
      go_wp2_with fail
      obtain ⟨wo, rfl⟩ : ∃ wo : World, wo = wr := ⟨_, rfl⟩
      go_loopw [50] (fun i wi => ∃ (k : Nat) (pr : List (Value × List Nat)), k ≤ sn ∧ i = .int .i64 (k : Int) ∧ SolSt W.heap.size R wi (.slice iva2 (ins.length + 1) ivc2) (.slice ova4 (outs.length + 1) ovc4) (.slice (some ⟨W.heap.size, 0, none⟩) n n) (.slice (some ⟨W2.heap.size, 0, none⟩) n n) (.slice kva j kvc) (ins ++ [(.slice ua1 (nw R) uc1, 0)]) (outs ++ [(.slice ua3 (nw R) uc3, 0)]) pr (List.replicate j true ++ List.replicate (f.blocks.length - j) false) (List.range j) ∧ PrevUp f j k (pr.map (·.2)) ∧ Below W.heap.size W wi ∧ w5.heap.size ≤ wi.heap.size ∧ IntsIn (fun k => w4.heap.size ≤ k ∧ k < w5.heap.size) wi (.slice sa sn sc) b.succ ∧ (∀ p ∈ pr, ∀ k, p.1.ownBlock = some k → k < w4.heap.size ∨ w5.heap.size ≤ k)) (fun i _ => sn - (intOf i).toNat)
      case atStart => exact ⟨0, prev, Nat.zero_le _, rfl, HST5.out, HPREV.out, HBX5.out, Nat.le_refl _, HSU.out, HOLD.out⟩
      case round =>
        obtain ⟨k, pr, hk, rfl, hst, hpu, hbel, hsz5, hsu, hold⟩ := hrel
        have HSTK := Lib.hid hst
        have HPU := Lib.hid hpu
        have HBK := Lib.hid hbel
        have HSZ5 := Lib.hid hsz5
        have HSUK := Lib.hid hsu
        have HOLDK := Lib.hid hold
        have hk0 : (0 : Int) ≤ (k : Int) := by omega
        have hprl : pr.length = n := by have := hpu.len; rw [List.length_map, HN.out] at this; exact this
        have HPRL := Lib.hid hprl
        clear hst hpu hbel hsz5 hsu hold hprl
        by_cases hks : k < sn
        · skip
          have hks2 : (k : Int) < (sn : Int) := by omega
          obtain ⟨q, hq⟩ : ∃ q, b.succ[k]? = some q := ⟨_, List.getElem?_eq_getElem (by rw [HSN.out]; exact hks)⟩
          have HQ := Lib.hid hq
          obtain ⟨hq0, hq1⟩ := HBRK.out.succ q (List.mem_of_getElem? hq)
          obtain ⟨r, rfl⟩ : ∃ r : Nat, q = (r : Int) := ⟨q.toNat, by omega⟩
          have hrn : r < n := by have := HN.out; omega
          rcases HSUK.out with ⟨h1, _⟩ | ⟨sb, so, cap, hv3, hb1, _, hb2, hc⟩
          · have := HSN.out; rw [h1] at this; simp at this; omega
          obtain ⟨rfl⟩ : sa = some ⟨sb, so, none⟩ := by injection hv3
          have hcell : wr.cell? ⟨sb, so + k, none⟩ = some (.int .i64 (r : Int)) := by
            rw [hc k (by rw [HSN.out]; exact hks), List.getD_eq_getElem?_getD, hq]
            rfl
          obtain ⟨pl, hpl⟩ : ∃ pl, pr[r]? = some pl := ⟨_, List.getElem?_eq_getElem (by rw [HPRL.out]; exact hrn)⟩
          obtain ⟨pv, pls⟩ := pl
          have HPL := Lib.hid hpl
          obtain ⟨p0, p1, p2⟩ := HSTK.out.cellPrev HPRL.out.symm hpl
          obtain ⟨pa, pc, hpv⟩ : ∃ pa pc, pv = .slice pa pls.length pc := by
            obtain ⟨pa, pc, h9⟩ := (HSTK.out.pi _ (List.mem_of_getElem? hpl)).val
            rw [natInts_len] at h9
            exact ⟨pa, pc, h9⟩
          subst hpv
          simp only at p0
          have hr0 : (0 : Int) ≤ (r : Int) := by omega
          have hr2 : (r : Int) < (n : Int) := by omega
          obtain ⟨V6, hV6⟩ : ∃ V6 : World, wr.alloc (.cells #[.int .i64 (j : Int)] 3) = V6 := ⟨_, rfl⟩
          have HBV6 : Hid (Below wr.heap.size wr V6) := by show Below _ _ _; rw [← hV6]; exact (Below.refl _ _).alloc (Nat.le_refl _) _
          have HC6 : Hid (V6.cell? ⟨wr.heap.size, 0, none⟩ = some (.int .i64 (j : Int))) := by show _ = _; rw [← hV6]; exact World.cell?_alloc_new _ _ _ 0
          have HST6 := Lib.hid (HSTK.out.keep HBV6.out)
          have HBK6 : Hid (Below W.heap.size W V6) := below_step HBK.out HBV6.out
          have hplm := List.mem_of_getElem? hpl
          have HPLM := Lib.hid hplm
          have hfew : pls.length ≤ 1000000 := by
            have := HPU.out.few r
            rw [List.getD_eq_getElem?_getD, List.getElem?_map, hpl] at this
            have h2 : pls.length ≤ 2 * j + k := this
            omega
          have HFEW := Lib.hid hfew
          clear hv3 hb1 hb2 hc hq hq0 hq1 hpl hplm hfew
          go_wp2_with (at_builtin; (refine wpList_append_int _ ?g1y (.tmp 59) (.tmp 61) ?g2y W.heap.size ?vy (natInts pls) wr.heap.size (j : Int) ?a1y ?a2y ?a3y ?a4y ?a5y ?a6y ?_))
          case g1y => rfl
          case g2y => rfl
          case a1y => rfl
          case a2y => rfl
          case a3y => exact HST6.out.pi _ HPLM.out
          case a4y => exact HC6.out
          case a5y => rw [natInts_len]; exact HFEW.out
          case a6y => exact HBK6.out.size
          intro nv w6 hn hg hp
          have HN6 := Lib.hid hn
          have HG6 := Lib.hid hg
          have HP6 := Lib.hid hp
          obtain ⟨na, nc, rfl⟩ : ∃ na nc, nv = .slice na (pls.length + 1) nc := by
            obtain ⟨na, nc, h9⟩ := hn.val
            rw [List.length_append, natInts_len, List.length_singleton] at h9
            exact ⟨na, nc, h9⟩
          have HPO6 := Lib.hid (row_other HST6.out.po (HST6.out.pi _ HPLM.out) (by decide) (Turn.grown hg))
          have hpb : w6.frozen? ⟨W.heap.size, r, none⟩ = false := row_free HPO6.out r
          have hpc : w6.cell? ⟨W.heap.size, r, none⟩ = some (.slice pa pls.length pc) := own_cell HPO6.out (by rw [List.getElem?_map, HPL.out]; rfl)
          have HBK7 : Hid (Below W.heap.size W w6) := HBK6.out.grown hg HBK6.out.size (fun k hk => ((HST6.out.pi _ HPLM.out).own hk).1)
          obtain ⟨W6, hW6⟩ : ∃ W6 : World, w6.setCell ⟨W.heap.size, r, none⟩ (.slice na (pls.length + 1) nc) = W6 := ⟨_, rfl⟩
          have HST7 : Hid (SolSt W.heap.size R W6 (.slice iva2 (ins.length + 1) ivc2) (.slice ova4 (outs.length + 1) ovc4) (.slice (some ⟨W.heap.size, 0, none⟩) n n) (.slice (some ⟨W2.heap.size, 0, none⟩) n n) (.slice kva j kvc) (ins ++ [(.slice ua1 (nw R) uc1, 0)]) (outs ++ [(.slice ua3 (nw R) uc3, 0)]) (pr.set r (.slice na (pls.length + 1) nc, pls ++ [j])) (List.replicate j true ++ List.replicate (f.blocks.length - j) false) (List.range j)) := by
            show SolSt _ _ _ _ _ _ _ _ _ _ _ _ _
            rw [← hW6]
            exact HST6.out.prevTurn HPL.out hg (by rw [natInts_snoc]; exact hn) hp HPRL.out.symm
          have HBK8 : Hid (Below W.heap.size W W6) := by show Below _ _ _; rw [← hW6]; exact HBK7.out.setCell (Nat.le_refl _) _
          have hsz6 : V6.heap.size ≤ w6.heap.size := hg.size
          have HSZ6 : Hid (w5.heap.size ≤ W6.heap.size) := by
            show _ ≤ _
            have := HSZ5.out
            have := HBV6.out.size
            rw [← hW6]
            simp only [World.setCell, Array.size_modify]
            omega
          have HSU6 : Hid (IntsIn (fun k => w4.heap.size ≤ k ∧ k < w5.heap.size) W6 (.slice (some ⟨sb, so, none⟩) sn sc) b.succ) := by
            show IntsIn _ _ _ _
            refine HSUK.out.move (by rw [← hW6]; have := HBV6.out.size; simp only [World.setCell, Array.size_modify]; omega) (fun k hk hlt => ?_) (fun _ h _ => h)
            have hk : w4.heap.size ≤ k ∧ k < w5.heap.size := hk
            rw [← hW6, Below.heap_setCell _ _ _ _ (show k ≠ W.heap.size by have : W.heap.size < w4.heap.size := (ownsRow_lt HST4.out.po rfl).2; omega), hg.block k (Nat.lt_of_lt_of_le hlt HBV6.out.size) (fun e => by have := HOLDK.out _ HPLM.out k e.symm; omega)]
            exact HBV6.out.block k hlt
          have HOLD6 : Hid (∀ p ∈ pr.set r (.slice na (pls.length + 1) nc, pls ++ [j]), ∀ k, p.1.ownBlock = some k → k < w4.heap.size ∨ w5.heap.size ≤ k) := fun p hpm k hk => by
            rcases List.mem_or_eq_of_mem_set hpm with hpm | rfl
            · exact HOLDK.out p hpm k hk
            · rcases hp with h9 | h9
              · exact HOLDK.out _ HPLM.out k (h9.symm.trans hk)
              · rw [h9] at hk
                injection hk with hk
                have := HSZ5.out
                have := HBV6.out.size
                exact .inr (by omega)
          have HPU6 : Hid (PrevUp f j (k + 1) ((pr.set r (.slice na (pls.length + 1) nc, pls ++ [j])).map (·.2))) := by
            show PrevUp _ _ _ _
            have h9 := HPU.out.add HB.out HQ.out (by have := HN.out; simpa [this] using hrn)
            rw [List.map_set]
            have h8 : (pr.map (·.2)).getD (r : Int).toNat [] = pls := by
              rw [List.getD_eq_getElem?_getD, List.getElem?_map, Int.toNat_natCast, HPL.out]
              rfl
            rw [h8, Int.toNat_natCast] at h9
            exact h9
          clear hn hg hp hV6 hsz6
          go_wp2_with fail
          clear hW6
          exact ⟨⟨k + 1, _, by omega, by go_num, HST7.out, HPU6.out, HBK8.out, HSZ6.out, HSU6.out, HOLD6.out⟩, by simp [intOf]; omega⟩
        · obtain rfl : k = sn := by omega
          obtain ⟨V7, hV7⟩ : ∃ V7 : World, wr.alloc (.cells #[.int .i64 (j : Int)] 3) = V7 := ⟨_, rfl⟩
          have HBV7 : Hid (Below wr.heap.size wr V7) := by show Below _ _ _; rw [← hV7]; exact (Below.refl _ _).alloc (Nat.le_refl _) _
          have HC7 : Hid (V7.cell? ⟨wr.heap.size, 0, none⟩ = some (.int .i64 (j : Int))) := by show _ = _; rw [← hV7]; exact World.cell?_alloc_new _ _ _ 0
          have HST7 := Lib.hid (HSTK.out.keep HBV7.out)
          have HBK7 : Hid (Below W.heap.size W V7) := below_step HBK.out HBV7.out
          go_wp2_with (at_builtin; (refine wpList_append_int _ ?g1z (.tmp 65) (.tmp 67) ?g2z W.heap.size ?vz (natInts (List.range j)) wr.heap.size (j : Int) ?a1z ?a2z ?a3z ?a4z ?a5z ?a6z ?_))
          case g1z => rfl
          case g2z => rfl
          case a1z => rfl
          case a2z => rfl
          case a3z => exact HST7.out.ko
          case a4z => exact HC7.out
          case a5z => rw [natInts_len, List.length_range]; omega
          case a6z => exact HBK7.out.size
          clear hV7
          intro nv w7 hn hg hp
          obtain ⟨na, nc, rfl⟩ : ∃ na nc, nv = .slice na (j + 1) nc := by
            obtain ⟨na, nc, h9⟩ := hn.val
            rw [List.length_append, natInts_len, List.length_singleton, List.length_range] at h9
            exact ⟨na, nc, h9⟩
          have HSTL := Lib.hid (HST7.out.addWork hg hn hp)
          have HBL : Hid (Below W.heap.size W w7) := HBK7.out.grown hg HBK7.out.size (fun k hk => (HST7.out.ko.own hk).1)
          have hwl : (List.replicate j true ++ List.replicate (f.blocks.length - j) false).length = n := by have := HN.out; simp; omega
          have hwj : (List.replicate j true ++ List.replicate (f.blocks.length - j) false)[j]? = some false := by
            rw [List.getElem?_append_right (by simp), List.length_replicate, Nat.sub_self, List.getElem?_replicate, if_pos (by have := HN.out; omega)]
          obtain ⟨q0, q1, q2⟩ := HSTL.out.cellWait hwl.symm hwj
          obtain ⟨W7, hW7⟩ : ∃ W7 : World, w7.setCell ⟨W2.heap.size, j, none⟩ (.bool true) = W7 := ⟨_, rfl⟩
          have hwset : (List.replicate j true ++ List.replicate (f.blocks.length - j) false).set j true = List.replicate (j + 1) true ++ List.replicate (f.blocks.length - (j + 1)) false := by
            rw [List.set_append_right _ _ (by simp), List.length_replicate, Nat.sub_self, show f.blocks.length - j = (f.blocks.length - (j + 1)) + 1 by have := HN.out; omega, List.replicate_succ, List.set_cons_zero, List.replicate_succ', List.append_assoc]
            rfl
          have HSTM : Hid (SolSt W.heap.size R W7 (.slice iva2 (ins.length + 1) ivc2) (.slice ova4 (outs.length + 1) ovc4) (.slice (some ⟨W.heap.size, 0, none⟩) n n) (.slice (some ⟨W2.heap.size, 0, none⟩) n n) (.slice na (j + 1) nc) (ins ++ [(.slice ua1 (nw R) uc1, 0)]) (outs ++ [(.slice ua3 (nw R) uc3, 0)]) pr (List.replicate (j + 1) true ++ List.replicate (f.blocks.length - (j + 1)) false) (List.range (j + 1))) := by
            show SolSt _ _ _ _ _ _ _ _ _ _ _ _ _
            rw [← hW7, ← hwset, List.range_succ]
            exact HSTL.out.setWait hwl.symm (by rw [hwl]; exact hlt)
          have HBM : Hid (Below W.heap.size W W7) := by show Below _ _ _; rw [← hW7]; exact HBL.out.setCell (show W.heap.size ≤ W2.heap.size from HB2.out.size) _
          have HPN : Hid (PrevUp f (j + 1) 0 (pr.map (·.2))) := by
            have := HPU.out
            rw [← HSN.out] at this
            exact this.next HB.out (by have := HSN.out; omega)
          have HI1 : Hid ((ins ++ [(Value.slice ua1 (nw R) uc1, 0)]).map (fun q : Value × Nat => q.2) = List.replicate (j + 1) 0) := by show _ = _; rw [List.map_append, HINS.out, List.replicate_succ']; rfl
          have HO1 : Hid ((outs ++ [(Value.slice ua3 (nw R) uc3, 0)]).map (fun q : Value × Nat => q.2) = List.replicate (j + 1) 0) := by show _ = _; rw [List.map_append, HOUTS.out, List.replicate_succ']; rfl
          clear hn hg hp hwj hwl hwset
          go_wp2_with fail
          clear hW7
          exact ⟨⟨j + 1, by omega, by go_num, _, _, _, HSTM.out, HI1.out, HO1.out, HPN.out, HBM.out⟩, by simp [intOf]; omega⟩
      -- FILLEND
    · obtain rfl : j = n := by omega
      obtain ⟨iva, ivc, rfl⟩ := ownsRow_val HST.out.io
      obtain ⟨ova, ovc, rfl⟩ := ownsRow_val HST.out.oo
      obtain ⟨kva, kvc, rfl⟩ := HST.out.ko.valR
      have hjp : 0 < j := by have := HFM.out.one; have := HN.out; omega
      obtain ⟨ib, rfl, _⟩ := own_some HST.out.io (by have := HL.out; omega)
      obtain ⟨ob, rfl, _⟩ := own_some HST.out.oo (by have := HL.out; omega)
      have HWK : Hid (WorkX f R (fun _ => False) (ins.map (·.2)) (outs.map (·.2)) (List.range j) (List.replicate j true ++ List.replicate (f.blocks.length - j) false)) := by
        show WorkX _ _ _ _ _ _ _
        rw [HINS.out, HOUTS.out, HN.out, Nat.sub_self, List.replicate_zero, List.append_nil]
        have := work_start (f := f) (R := R)
        rwa [HN.out] at this
      have hil := HL.out.1
      have hol := HL.out.2
      have hprl : prev.length = j := by have := HPREV.out.len; rw [List.length_map, HN.out] at this; exact this
      have HPRL := Lib.hid hprl
      have HST0 : Hid (SolSt W.heap.size R wr (.slice (some ⟨ib, 0, none⟩) j ivc) (.slice (some ⟨ob, 0, none⟩) j ovc) (.slice (some ⟨W.heap.size, 0, none⟩) j j) (.slice (some ⟨W2.heap.size, 0, none⟩) j j) (.slice kva j kvc) ins outs prev (List.replicate j true ++ List.replicate (f.blocks.length - j) false) (List.range j)) := by
        show SolSt _ _ _ _ _ _ _ _ _ _ _ _ _
        have := HST.out
        rw [hil, hol] at this
        exact this
      rw [hil, hol]
      clear hil hol hprl x0 x1 x2 x3 y3 z3
      go_wp2_with fail
      obtain ⟨wo, rfl⟩ : ∃ wo : World, wo = wr := ⟨_, rfl⟩
      go_loopw [6] (fun kv wr => ∃ g, SolG f R W.heap.size W (.slice (some ⟨ib, 0, none⟩) j ivc) (.slice (some ⟨ob, 0, none⟩) j ovc) (.slice (some ⟨W.heap.size, 0, none⟩) j j) (.slice (some ⟨W2.heap.size, 0, none⟩) j j) prev kv wr g) (fun kv wr => leastM (SolG f R W.heap.size W (.slice (some ⟨ib, 0, none⟩) j ivc) (.slice (some ⟨ob, 0, none⟩) j ovc) (.slice (some ⟨W.heap.size, 0, none⟩) j j) (.slice (some ⟨W2.heap.size, 0, none⟩) j j) prev kv wr) (fun g => workM R j (g.ins.map (·.2)) g.work))
      case atStart => exact ⟨⟨ins, outs, _, _⟩, HST0.out, HWK.out, HBEL.out⟩
      case round =>
        obtain ⟨⟨gi, go, gt, gk⟩, hg, hmin⟩ := leastM_at (M := fun g : SolW => workM R j (g.ins.map (·.2)) g.work) hrel
        obtain ⟨hst, hwx, hbel⟩ := hg
        simp only at hst hwx hmin
        have HMIN := Lib.hid hmin
        rcases List.eq_nil_or_concat gk with rfl | ⟨wk, x, rfl⟩
        · obtain ⟨ka, kc, rfl⟩ := hst.ko.valN
          have HSTG := Lib.hid hst
          have HWXG := Lib.hid hwx
          have HBG := Lib.hid hbel
          clear hst hwx hbel hmin hrel
          simp only [List.length_nil]
          go_wp2_with fail
          go_ret2
          exact ⟨_, _, _, _, _, _, _, _, _, _, rfl, HSTG.out.base (by have := HWS.out; omega), HWXG.out.sol, HBW.out.trans (HBG.out.mono HBW.out.size)⟩
        · rw [List.concat_eq_append] at *
          obtain ⟨ka, kc, rfl⟩ := hst.ko.valN
          simp only [List.length_append, List.length_singleton] at hst ⊢
          obtain ⟨kb, rfl, _, _, hkc⟩ := own_some (n := (natInts (wk ++ [x])).length) (by have := hst.ko; unfold IntRow at this; rw [natInts_len] at this ⊢; simpa using this) (by rw [natInts_len]; simp)
          have hkc2 : wk.length ≤ kc := by rw [natInts_len] at hkc; simp at hkc; omega
          have hxn : x < j := by have := hwx.wk x (by simp); rw [HN.out] at this; exact this
          have hwl : wk.length ≤ 1000 := by
            have h8 := nodup_bound hwx.nd hwx.wk
            rw [HN.out, List.length_append, List.length_singleton] at h8
            omega
          have hx0 : (0 : Int) ≤ (x : Int) := by omega
          have hx1 : (x : Int) < (j : Int) := by omega
          have hgtl : gt.length = j := by have := hwx.lw; rw [HN.out] at this; exact this
          have hgil : gi.length = j := by have := hwx.li; rw [HN.out, List.length_map] at this; exact this
          have hgol : go.length = j := by have := hwx.lo; rw [HN.out, List.length_map] at this; exact this
          have HLG := Lib.hid (And.intro hgtl (And.intro hgil hgol))
          have kcell : wr.cell? ⟨kb, wk.length, none⟩ = some (.int .i64 (x : Int)) := own_cell hst.ko (by rw [List.getElem?_map, natInts_snoc, List.getElem?_append_right (by rw [natInts_len]; exact Nat.le_refl _), natInts_len, Nat.sub_self]; rfl)
          obtain ⟨bx, hbx⟩ : ∃ bx, gt[x]? = some bx := ⟨_, List.getElem?_eq_getElem (by rw [hgtl]; exact hxn)⟩
          obtain ⟨q0, q1, q2⟩ := hst.cellWait hgtl.symm hbx
          obtain ⟨X1, hX1⟩ : ∃ X1 : World, wr.setCell ⟨W2.heap.size, x, none⟩ (.bool false) = X1 := ⟨_, rfl⟩
          have HS1 : Hid (SolSt W.heap.size R X1 (.slice (some ⟨ib, 0, none⟩) j ivc) (.slice (some ⟨ob, 0, none⟩) j ovc) (.slice (some ⟨W.heap.size, 0, none⟩) j j) (.slice (some ⟨W2.heap.size, 0, none⟩) j j) (.slice (some ⟨kb, 0, none⟩) wk.length kc) gi go prev (gt.set x false) wk) := by
            show SolSt _ _ _ _ _ _ _ _ _ _ _ _ _
            rw [← hX1]
            exact hst.popWork.setWait hgtl.symm (by rw [hgtl]; exact hxn)
          have HW1 := Lib.hid hwx.pop
          have HB1 : Hid (Below W.heap.size W X1) := by show Below _ _ _; rw [← hX1]; exact hbel.setCell (show W.heap.size ≤ W2.heap.size from HB2.out.size) _
          obtain ⟨b, hb⟩ : ∃ b, f.blocks[x]? = some b := ⟨_, List.getElem?_eq_getElem (by rw [HN.out]; exact hxn)⟩
          have HB := Lib.hid hb
          rcases HF.out.blocks.at_ with h0 | ⟨bb, off, rfl, hk⟩
          · have := HN.out; omega
          obtain ⟨ca, cc, hba, hcode⟩ := hk x b hb
          obtain ⟨c0, c1, c2, c3, c4⟩ := hba.below (HBW.out.trans (HB1.out.mono HBW.out.size))
          have HCODE := Lib.hid hcode
          have e3 : X1.cell? ⟨w.heap.size, 3, none⟩ = some (.slice (some ⟨bb, off, none⟩) j bc) := (HB1.out.cell (p := ⟨w.heap.size, 3, none⟩) (by have := HWS.out; show w.heap.size < _; omega)).trans (cell_heap HX.out 3)
          obtain ⟨V1, hV1⟩ : ∃ V1 : World, X1.alloc (.cells #[.slice ca b.code.length cc, .int .u8 b.kind, .int .i64 b.x, .int .i64 b.to, .int .i64 b.els] 43) = V1 := ⟨_, rfl⟩
          have HBV1 : Hid (Below X1.heap.size X1 V1) := by show Below _ _ _; rw [← hV1]; exact (Below.refl _ _).alloc (Nat.le_refl _) _
          have HZ1 : Hid (V1.heap[X1.heap.size]? = some (.cells #[.slice ca b.code.length cc, .int .u8 b.kind, .int .i64 b.x, .int .i64 b.to, .int .i64 b.els] 43)) := by
            show _ = _
            rw [← hV1]
            exact (MapKept.heap_alloc X1 _).1
          have HSV1 := Lib.hid (HS1.out.keep HBV1.out)
          have HBW1 : Hid (Below W.heap.size W V1) := below_step HB1.out HBV1.out
          obtain ⟨d0, d1, d2, d3, d4⟩ := five_cells HZ1.out
          have hmn : Hid (workM R j (gi.map (·.2)) (wk ++ [x]) = leastM (SolG f R W.heap.size W (.slice (some ⟨ib, 0, none⟩) j ivc) (.slice (some ⟨ob, 0, none⟩) j ovc) (.slice (some ⟨W.heap.size, 0, none⟩) j j) (.slice (some ⟨W2.heap.size, 0, none⟩) j j) prev (.slice (some ⟨kb, 0, none⟩) (wk.length + 1) kc) wr) (fun g => workM R j (g.ins.map (·.2)) g.work)) := by
            show _ = _
            have := HMIN.out
            simpa using this
          clear hst hwx hbel hmin hrel HMIN hk hba hcode hb hbx hgtl hgil hgol hkc
          go_wp2_with fail
          clear hX1 hV1 c0 c1 c2 c3 c4 d0 d1 d2 d3 d4 e3 q0 q1 q2 kcell
          refine (succ_any b ca cc _).mono ?_
          rintro e w2 ⟨su, rfl, hS, hB⟩
          have HS2 := Lib.hid (HSV1.out.keep hB)
          have HBX2 : Hid (Below W.heap.size W w2) := below_step HBW1.out hB
          have HZ2 : Hid (w2.heap[X1.heap.size]? = some (.cells #[.slice ca b.code.length cc, .int .u8 b.kind, .int .i64 b.x, .int .i64 b.to, .int .i64 b.els] 43)) := (hB.block _ (lt_heap HZ1.out)).trans HZ1.out
          obtain ⟨sa, sc, rfl⟩ : ∃ sa sc, su = .slice sa b.succ.length sc := by
            rcases hS with ⟨h1, h2⟩ | ⟨b', off', cap, h2, _⟩
            · exact ⟨none, 0, by rw [h2, h1]; rfl⟩
            · exact ⟨_, _, h2⟩
          have hsl := succ_two b
          obtain ⟨sn, hsn⟩ : ∃ m, b.succ.length = m := ⟨_, rfl⟩
          have HSN := Lib.hid hsn
          have HSU := Lib.hid hS
          have HBRK := Lib.hid (HFM.out.blk b (List.mem_of_getElem? HB.out))
          obtain ⟨vo, hvo⟩ : ∃ vo, go[x]? = some vo := ⟨_, List.getElem?_eq_getElem (by have := HLG.out; omega)⟩
          obtain ⟨vx, ox⟩ := vo
          have HVO := Lib.hid hvo
          have hvs := HSV1.out.oi _ (List.mem_of_getElem? hvo)
          have HVS := Lib.hid hvs
          obtain ⟨vxa, vxc, rfl⟩ := ownsRow_val hvs.row
          rw [hsn] at hsl HSU ⊢
          have HJ0 : Hid (SolSt W.heap.size R w2 (.slice (some ⟨ib, 0, none⟩) j ivc) (.slice (some ⟨ob, 0, none⟩) j ovc) (.slice (some ⟨W.heap.size, 0, none⟩) j j) (.slice (some ⟨W2.heap.size, 0, none⟩) j j) (.slice (some ⟨kb, 0, none⟩) wk.length kc) gi (go.set x (.slice vxa (nw R) vxc, joinB (gi.map (·.2)) (b.succ.take 0) ox)) prev (gt.set x false) wk) := by
            show SolSt _ _ _ _ _ _ _ _ _ _ _ _ _
            have h9 : go.set x (.slice vxa (nw R) vxc, joinB (gi.map (·.2)) (b.succ.take 0) ox) = go := set_at_same hvo
            rw [h9]
            exact HS2.out
          clear hS hB hsn hvs hvo
          go_wp2_with fail
          obtain ⟨wp, rfl⟩ : ∃ wp : World, wp = wr := ⟨_, rfl⟩
          go_loopw [98] (fun i wi => ∃ k : Nat, k ≤ sn ∧ i = .int .i64 (k : Int) ∧ SolSt W.heap.size R wi (.slice (some ⟨ib, 0, none⟩) j ivc) (.slice (some ⟨ob, 0, none⟩) j ovc) (.slice (some ⟨W.heap.size, 0, none⟩) j j) (.slice (some ⟨W2.heap.size, 0, none⟩) j j) (.slice (some ⟨kb, 0, none⟩) wk.length kc) gi (go.set x (.slice vxa (nw R) vxc, joinB (gi.map (·.2)) (b.succ.take k) ox)) prev (gt.set x false) wk ∧ Below W.heap.size W wi ∧ wi.heap[X1.heap.size]? = some (.cells #[.slice ca b.code.length cc, .int .u8 b.kind, .int .i64 b.x, .int .i64 b.to, .int .i64 b.els] 43) ∧ IntsIn (fun k => V1.heap.size ≤ k) wi (.slice sa sn sc) b.succ) (fun i _ => sn - (intOf i).toNat)
          case atStart => exact ⟨0, Nat.zero_le _, rfl, HJ0.out, HBX2.out, HZ2.out, HSU.out⟩
          case round =>
            obtain ⟨k, hk, rfl, hsj, hbj, hzj, huj⟩ := hrel
            have HSJ := Lib.hid hsj
            have HBJ := Lib.hid hbj
            have HZJ := Lib.hid hzj
            have HUJ := Lib.hid huj
            have hk0 : (0 : Int) ≤ (k : Int) := by omega
            clear hsj hbj hzj huj
            by_cases hks : k < sn
            · skip
              have hks2 : (k : Int) < (sn : Int) := by omega
              obtain ⟨q, hq⟩ : ∃ q, b.succ[k]? = some q := ⟨_, List.getElem?_eq_getElem (by rw [HSN.out]; exact hks)⟩
              have HQ := Lib.hid hq
              obtain ⟨hq0, hq1⟩ := HBRK.out.succ q (List.mem_of_getElem? hq)
              obtain ⟨r, rfl⟩ : ∃ r : Nat, q = (r : Int) := ⟨q.toNat, by omega⟩
              have hrn : r < j := by have := HN.out; omega
              rcases HUJ.out with ⟨h1, _⟩ | ⟨sb, so, cap, hv3, hb1, _, hb2, hc⟩
              · have := HSN.out; rw [h1] at this; simp at this; omega
              obtain ⟨rfl⟩ : sa = some ⟨sb, so, none⟩ := by injection hv3
              have hcell : wr.cell? ⟨sb, so + k, none⟩ = some (.int .i64 (r : Int)) := by
                rw [hc k (by rw [HSN.out]; exact hks), List.getD_eq_getElem?_getD, hq]
                rfl
              obtain ⟨vi, hvi⟩ : ∃ vi, gi[r]? = some vi := ⟨_, List.getElem?_eq_getElem (by have := HLG.out; omega)⟩
              obtain ⟨vr, sr⟩ := vi
              have HVI := Lib.hid hvi
              have hvo : (go.set x (.slice vxa (nw R) vxc, joinB (gi.map (·.2)) (b.succ.take k) ox))[x]? = some (.slice vxa (nw R) vxc, joinB (gi.map (·.2)) (b.succ.take k) ox) := List.getElem?_set_self (by have := HLG.out; omega)
              have HVO2 := Lib.hid hvo
              obtain ⟨p0, _, _⟩ := HSJ.out.cellInA HLG.out.2.1.symm hvi
              obtain ⟨o0, _, _⟩ := HSJ.out.cellOutA (by rw [List.length_set]; exact HLG.out.2.2.symm) hvo
              have hvr := HSJ.out.ii _ (List.mem_of_getElem? hvi)
              obtain ⟨vra, vrc, hvr2⟩ := ownsRow_val hvr.row
              simp only at hvr2
              subst hvr2
              have HVR := Lib.hid hvr
              have HVX := Lib.hid (HSJ.out.oi _ (List.mem_of_getElem? hvo))
              have HAP := Lib.hid (HSJ.out.sets _ (List.mem_of_getElem? hvi) _ (List.mem_of_getElem? hvo)).symm
              simp only at p0 o0
              have hr0 : (0 : Int) ≤ (r : Int) := by omega
              have hr2 : (r : Int) < (j : Int) := by omega
              clear hv3 hb1 hb2 hc hq hq0 hq1 hvi hvo hvr
              go_wp2_with fail
              go_still_tail 8, (by kernel_rfl)
              change wpList _ _ _ _ _ wr.drew
              go_wp2_with fail
              refine (join_any wr.drew HVX.out.drew HVR.out.drew HAP.out).mono ?_
              rintro e w4 ⟨⟨u4, rfl⟩, hA, hT⟩
              have hT2 : Turn (.slice vxa (nw R) vxc) wr w4 := (Turn.refl _ _).drew.trans hT
              have hsr : (gi.map (·.2)).getD (r : Int).toNat 0 = sr := by
                rw [List.getD_eq_getElem?_getD, List.getElem?_map, Int.toNat_natCast, HVI.out]
                rfl
              have hjk : joinB (gi.map (·.2)) (b.succ.take (k + 1)) ox = joinB (gi.map (·.2)) (b.succ.take k) ox ||| sr := by
                unfold joinB
                rw [take_snoc HQ.out, List.foldl_append, List.foldl_cons, List.foldl_nil, hsr]
              have HSK : Hid (SolSt W.heap.size R w4 (.slice (some ⟨ib, 0, none⟩) j ivc) (.slice (some ⟨ob, 0, none⟩) j ovc) (.slice (some ⟨W.heap.size, 0, none⟩) j j) (.slice (some ⟨W2.heap.size, 0, none⟩) j j) (.slice (some ⟨kb, 0, none⟩) wk.length kc) gi (go.set x (.slice vxa (nw R) vxc, joinB (gi.map (·.2)) (b.succ.take (k + 1)) ox)) prev (gt.set x false) wk) := by
                show SolSt _ _ _ _ _ _ _ _ _ _ _ _ _
                have h9 := HSJ.out.turnOut HVO2.out hT2 hA
                rw [List.set_set, ← hjk] at h9
                exact h9
              have HBK : Hid (Below W.heap.size W w4) := HBJ.out.trans (hT2.below HBJ.out.size (fun k hk => (HVX.out.own hk).1))
              have HZK : Hid (w4.heap[X1.heap.size]? = some (.cells #[.slice ca b.code.length cc, .int .u8 b.kind, .int .i64 b.x, .int .i64 b.to, .int .i64 b.els] 43)) := block_other HVX.out.row HZJ.out (by decide) hT2
              have HUK : Hid (IntsIn (fun k => V1.heap.size ≤ k) w4 (.slice (some ⟨sb, so, none⟩) sn sc) b.succ) := HUJ.out.move hT2.size (fun k hk hlt => hT2.block k hlt (fun e => by
                have h8 : V1.heap.size ≤ k := hk
                have := (HVS.out.own (k := k) e).2
                omega)) (fun _ h _ => h)
              clear hA hT hT2 hsr hjk
              go_wp2_with fail
              exact ⟨⟨k + 1, by omega, by go_num, HSK.out, HBK.out, HZK.out, HUK.out⟩, by simp [intOf]; omega⟩
            · obtain rfl : k = sn := by omega
              have htk : b.succ.take k = b.succ := List.take_of_length_le (by have := HSN.out; omega)
              obtain ⟨o2, ho2⟩ : ∃ o2, joinB (gi.map (·.2)) b.succ ox = o2 := ⟨_, rfl⟩
              have HO2 := Lib.hid ho2
              have HSA : Hid (SolSt W.heap.size R wr (.slice (some ⟨ib, 0, none⟩) j ivc) (.slice (some ⟨ob, 0, none⟩) j ovc) (.slice (some ⟨W.heap.size, 0, none⟩) j j) (.slice (some ⟨W2.heap.size, 0, none⟩) j j) (.slice (some ⟨kb, 0, none⟩) wk.length kc) gi (go.set x (.slice vxa (nw R) vxc, o2)) prev (gt.set x false) wk) := by
                show SolSt _ _ _ _ _ _ _ _ _ _ _ _ _
                have h9 := HSJ.out
                rw [htk, ho2] at h9
                exact h9
              have hoset : (go.set x (Value.slice vxa (nw R) vxc, o2)).map (·.2) = (go.map (·.2)).set x (joinB (gi.map (·.2)) b.succ ((go.map (·.2)).getD x 0)) := by
                rw [List.map_set, List.getD_eq_getElem?_getD, List.getElem?_map, HVO.out]
                show _ = List.set _ x (joinB _ _ ox)
                rw [ho2]
              have HW2 : Hid (WorkX f R (fun k => k = x) (gi.map (·.2)) ((go.set x (Value.slice vxa (nw R) vxc, o2)).map (·.2)) wk (gt.set x false)) := by
                show WorkX _ _ _ _ _ _ _
                rw [hoset]
                exact HW1.out.join HFM.out HB.out
              have hogx : ((go.set x (Value.slice vxa (nw R) vxc, o2)).map (·.2)).getD x 0 = o2 := by
                rw [List.map_set, getD_set, if_pos ⟨rfl, by rw [List.length_map]; have := HLG.out; omega⟩]
              have HOG := Lib.hid hogx
              have hjn : ∀ t ∈ b.succ, ∀ r, ((gi.map (fun q : Value × Nat => q.2)).getD t.toNat 0).testBit r = true → (((go.set x (Value.slice vxa (nw R) vxc, o2)).map (fun q : Value × Nat => q.2)).getD x 0).testBit r = true := fun t ht r hr => by
                rw [hogx, ← ho2]
                exact (joinB_bit _ _ _ _).2 (.inr ⟨t, ht, hr⟩)
              have HJN := Lib.hid hjn
              have hvo : (go.set x (Value.slice vxa (nw R) vxc, o2))[x]? = some (.slice vxa (nw R) vxc, o2) := List.getElem?_set_self (by have := HLG.out; omega)
              have HVO2 := Lib.hid hvo
              obtain ⟨o0, _, _⟩ := HSA.out.cellOutA (by rw [List.length_set]; exact HLG.out.2.2.symm) hvo
              have HVX := Lib.hid (HSA.out.oi _ (List.mem_of_getElem? hvo))
              obtain ⟨d0, d1, d2, d3, d4⟩ := five_cells HZJ.out
              simp only at o0
              clear htk ho2 hoset hogx hjn hvo
              go_wp2_with fail
              go_still_tail 5, (by kernel_rfl)
              change wpList _ _ _ _ _ wr.drew
              go_wp2_with fail
              refine (last_any b ca cc wr.drew HVX.out.drew HBRK.out.fin).mono ?_
              rintro e w5 ⟨sv, rfl, hL, hB⟩
              have hL1 : SetV wr.heap.size R w5 sv (lastB b o2) := hL
              have hB1 : Below wr.heap.size wr w5 := ((Below.refl _ _).drew).trans hB
              have HSB := Lib.hid (HSA.out.keep hB1)
              have HFR := Lib.hid (HSA.out.fresh hL1)
              have HBB : Hid (Below W.heap.size W w5) := below_step HBJ.out hB1
              have HZB : Hid (w5.heap[X1.heap.size]? = some (.cells #[.slice ca b.code.length cc, .int .u8 b.kind, .int .i64 b.x, .int .i64 b.to, .int .i64 b.els] 43)) := (hB1.block _ (lt_heap HZJ.out)).trans HZJ.out
              obtain ⟨sva, svc, rfl⟩ := ownsRow_val hL1.row
              have HLB : Hid (SetV W.heap.size R w5 (.slice sva (nw R) svc) (blkB b b.code.length o2)) := by
                show SetV _ _ _ _ _
                rw [blkB_end]
                exact hL1.base HBJ.out.size
              have hcl1 := HCL.out b (List.mem_of_getElem? HB.out)
              have hcl0 : (0 : Int) ≤ (b.code.length : Int) := by omega
              clear hL hL1 hB hB1 d0 d1 d2 d3 d4 o0
              obtain ⟨d0, d1, d2, d3, d4⟩ := five_cells HZB.out
              go_wp2_with fail
              clear d0 d1 d2 d3 d4
              obtain ⟨wq, rfl⟩ : ∃ wq : World, wq = wr := ⟨_, rfl⟩
              go_loopw [17] (fun i wi => ∃ m : Nat, m ≤ b.code.length ∧ i = .int .i64 ((m : Int) - 1) ∧ SolSt W.heap.size R wi (.slice (some ⟨ib, 0, none⟩) j ivc) (.slice (some ⟨ob, 0, none⟩) j ovc) (.slice (some ⟨W.heap.size, 0, none⟩) j j) (.slice (some ⟨W2.heap.size, 0, none⟩) j j) (.slice (some ⟨kb, 0, none⟩) wk.length kc) gi (go.set x (.slice vxa (nw R) vxc, o2)) prev (gt.set x false) wk ∧ SetV W.heap.size R wi (.slice sva (nw R) svc) (blkB b m o2) ∧ Below W.heap.size W wi ∧ wi.heap[X1.heap.size]? = some (.cells #[.slice ca b.code.length cc, .int .u8 b.kind, .int .i64 b.x, .int .i64 b.to, .int .i64 b.els] 43)) (fun i _ => (intOf i + 1).toNat)
              case atStart => exact ⟨b.code.length, Nat.le_refl _, rfl, HSB.out, HLB.out, HBB.out, HZB.out⟩
              case round =>
                obtain ⟨m, hm, rfl, hsm, hlm, hbm, hzm⟩ := hrel
                have HSM := Lib.hid hsm
                have HLM := Lib.hid hlm
                have HBM := Lib.hid hbm
                have HZM := Lib.hid hzm
                clear hsm hlm hbm
                obtain ⟨d0, d1, d2, d3, d4⟩ := five_cells hzm
                clear hzm
                rcases Nat.eq_zero_or_pos m with rfl | hmp
                · have e0 : ((0 : Nat) : Int) - 1 = -1 := by omega
                  rw [e0]
                  clear e0 d0 d1 d2 d3 d4
                  obtain ⟨vi, hvi⟩ : ∃ vi, gi[x]? = some vi := ⟨_, List.getElem?_eq_getElem (by have := HLG.out; omega)⟩
                  obtain ⟨vr, sr⟩ := vi
                  have HVI := Lib.hid hvi
                  obtain ⟨p0, p1, _⟩ := HSM.out.cellInA HLG.out.2.1.symm hvi
                  have hvr := HSM.out.ii _ (List.mem_of_getElem? hvi)
                  obtain ⟨vra, vrc, hvr2⟩ := ownsRow_val hvr.row
                  simp only at hvr2
                  subst hvr2
                  have HVR := Lib.hid hvr
                  simp only at p0
                  clear hvi hvr
                  go_wp2_with fail
                  refine (setEqual_any _ HLM.out HVR.out).mono ?_
                  rintro e w6 ⟨he, m6, hw6⟩
                  have hB6 : Below wr.heap.size wr w6 := by rw [hw6]; exact ⟨rfl, rfl, rfl, Nat.le_refl _, fun _ _ => rfl⟩
                  have HSE := Lib.hid (HSM.out.keep hB6)
                  have HLE := Lib.hid (HLM.out.keep hB6)
                  have HBE : Hid (Below W.heap.size W w6) := below_step HBM.out hB6
                  have hgx : (gi.map (fun q : Value × Nat => q.2)).getD x 0 = sr := by
                    rw [List.getD_eq_getElem?_getD, List.getElem?_map, HVI.out]
                    rfl
                  have HGX := Lib.hid hgx
                  clear hB6 hw6 hgx p0 p1
                  by_cases heq : blkB b 0 o2 = sr
                  · have hd : decide (blkB b 0 o2 = sr) = true := by simpa using heq
                    rw [hd] at he
                    subst he
                    have HWE := Lib.hid (HW2.out.same HB.out HJN.out (by rw [HOG.out, HGX.out]; exact heq))
                    clear hd
                    go_wp2_with fail
                    refine ⟨⟨⟨gi, _, _, wk⟩, HSE.out, HWE.out, HBE.out⟩, ?_⟩
                    rw [← hmn.out]
                    exact Nat.lt_of_le_of_lt (leastM_le (a := ⟨gi, go.set x (.slice vxa (nw R) vxc, o2), gt.set x false, wk⟩) ⟨HSE.out, HWE.out, HBE.out⟩) workM_pop
                  · have hd : decide (blkB b 0 o2 = sr) = false := by simpa using heq
                    rw [hd] at he
                    subst he
                    obtain ⟨p0, p1, _⟩ := HSE.out.cellInA HLG.out.2.1.symm HVI.out
                    obtain ⟨pv, hpv⟩ : ∃ pv, prev[x]? = some pv := ⟨_, List.getElem?_eq_getElem (by rw [HPRL.out]; exact hxn)⟩
                    obtain ⟨qv, pl⟩ := pv
                    have HPV := Lib.hid hpv
                    obtain ⟨X8, hX8⟩ : ∃ X8 : World, w6.setCell ⟨ib, x, none⟩ (.slice sva (nw R) svc) = X8 := ⟨_, rfl⟩
                    have HS8 : Hid (SolSt W.heap.size R X8 (.slice (some ⟨ib, 0, none⟩) j ivc) (.slice (some ⟨ob, 0, none⟩) j ovc) (.slice (some ⟨W.heap.size, 0, none⟩) j j) (.slice (some ⟨W2.heap.size, 0, none⟩) j j) (.slice (some ⟨kb, 0, none⟩) wk.length kc) (gi.set x (.slice sva (nw R) svc, blkB b 0 o2)) (go.set x (.slice vxa (nw R) vxc, o2)) prev (gt.set x false) wk) := by
                      show SolSt _ _ _ _ _ _ _ _ _ _ _ _ _
                      rw [← hX8]
                      exact HSE.out.setIn HLG.out.2.1.symm (by have := HLG.out; omega) HLE.out HFR.out.2
                    have HB8 : Hid (Below W.heap.size W X8) := by show Below _ _ _; rw [← hX8]; exact HBE.out.setCell (show W.heap.size ≤ ib from (ownsRow_lt HSE.out.io rfl).1) _
                    obtain ⟨q3, q4, _⟩ := HS8.out.cellPrev HPRL.out.symm hpv
                    obtain ⟨qa, qc, hqv⟩ := IntRow.valN (HS8.out.pi _ (List.mem_of_getElem? hpv))
                    simp only at hqv
                    subst hqv
                    simp only at q3 p0
                    have hpg : (prev.map (·.2)).getD x [] = pl := by
                      rw [List.getD_eq_getElem?_getD, List.getElem?_map, hpv]
                      rfl
                    have HPL : Hid (∀ z ∈ pl, z < j) := fun z hz => by
                      have h9 := HPREV.out.lt x z (by rw [hpg]; exact hz)
                      rw [HN.out] at h9
                      exact h9
                    have hpll : pl.length ≤ 2 * j := by have h9 := HPREV.out.few x; rw [hpg] at h9; omega
                    have hP : ∀ k c, f.blocks[k]? = some c → (∃ t ∈ c.succ, t.toNat = x) → k ∈ pl.drop 0 := fun k c hc ⟨t, ht, htx⟩ => by
                      have h8 : k < j := by have := (List.getElem?_eq_some_iff.1 hc).1; rw [HN.out] at this; exact this
                      have h9 := HPREV.out.has k c h8 hc t ht
                      rw [htx, hpg] at h9
                      exact h9
                    have hset : (gi.set x (.slice sva (nw R) svc, blkB b 0 o2)).map (fun q : Value × Nat => q.2) = (gi.map (·.2)).set x (blkB b 0 (((go.set x (.slice vxa (nw R) vxc, o2)).map (·.2)).getD x 0)) := by
                      rw [List.map_set, HOG.out]
                    have HW3 : Hid (WorkX f R (fun z => z ∈ pl.drop 0) ((gi.set x (.slice sva (nw R) svc, blkB b 0 o2)).map (fun q : Value × Nat => q.2)) ((go.set x (.slice vxa (nw R) vxc, o2)).map (·.2)) wk (gt.set x false)) := by
                      show WorkX _ _ _ _ _ _ _
                      rw [hset]
                      exact HW2.out.grow HFM.out HB.out HJN.out hP
                    have HMG : Hid (∀ wk2 : List Nat, wk2.length ≤ j → workM R j ((gi.set x (.slice sva (nw R) svc, blkB b 0 o2)).map (fun q : Value × Nat => q.2)) wk2 < workM R j (gi.map (·.2)) (wk ++ [x])) := fun wk2 h2 => by
                      rw [hset, HOG.out]
                      refine workM_grow (by rw [List.length_map]; have := HLG.out; omega) ?_ HLE.out.lt h2
                      have h5 := bits_le (HW2.out.up x b HB.out)
                      rw [HOG.out, HGX.out] at h5
                      rw [HGX.out]
                      omega
                    clear hd heq hpv hpg hP hset
                    go_wp2_with fail
                    clear hX8 p0 p1 q3 q4
                    obtain ⟨wq2, rfl⟩ : ∃ wq2 : World, wq2 = wr := ⟨_, rfl⟩
                    go_loopw [6, 148] (fun kv i wi => ∃ (k : Nat) (wt : List Bool) (wk2 : List Nat), k ≤ pl.length ∧ i = .int .i64 (k : Int) ∧ SolSt W.heap.size R wi (.slice (some ⟨ib, 0, none⟩) j ivc) (.slice (some ⟨ob, 0, none⟩) j ovc) (.slice (some ⟨W.heap.size, 0, none⟩) j j) (.slice (some ⟨W2.heap.size, 0, none⟩) j j) kv (gi.set x (.slice sva (nw R) svc, blkB b 0 o2)) (go.set x (.slice vxa (nw R) vxc, o2)) prev wt wk2 ∧ WorkX f R (fun z => z ∈ pl.drop k) ((gi.set x (.slice sva (nw R) svc, blkB b 0 o2)).map (fun q : Value × Nat => q.2)) ((go.set x (.slice vxa (nw R) vxc, o2)).map (·.2)) wk2 wt ∧ Below W.heap.size W wi) (fun _ i _ => pl.length - (intOf i).toNat)
                    case atStart => exact ⟨0, _, _, Nat.zero_le _, rfl, HS8.out, HW3.out, HB8.out⟩
                    case round =>
                      obtain ⟨k, wt, wk2, hk, rfl, hs9, hw9, hb9⟩ := hrel
                      have HS9 := Lib.hid hs9
                      have HW9 := Lib.hid hw9
                      have HB9 := Lib.hid hb9
                      have hk0 : (0 : Int) ≤ (k : Int) := by omega
                      have hwtl : wt.length = j := by have := hw9.lw; rw [HN.out] at this; exact this
                      have HWTL := Lib.hid hwtl
                      have hwk2 : wk2.length ≤ j := by have := nodup_bound hw9.nd hw9.wk; rw [HN.out] at this; exact this
                      have HK2 := Lib.hid hwk2
                      obtain ⟨k3a, k3c, rfl⟩ := IntRow.valN hs9.ko
                      clear hs9 hw9 hb9 hwtl
                      by_cases hkp : k < pl.length
                      · skip
                        have hkp2 : (k : Int) < (pl.length : Int) := by omega
                        obtain ⟨p, hp⟩ : ∃ p, pl[k]? = some p := ⟨_, List.getElem?_eq_getElem hkp⟩
                        have HP := Lib.hid hp
                        have hpj := HPL.out p (List.mem_of_getElem? hp)
                        have hp0 : (0 : Int) ≤ (p : Int) := by omega
                        have hp1 : (p : Int) < (j : Int) := by omega
                        have hqr := HS9.out.pi _ (List.mem_of_getElem? HPV.out)
                        unfold IntRow at hqr
                        rw [natInts_len] at hqr
                        obtain ⟨qb, rfl, _⟩ := own_some hqr (by omega)
                        have qcell : wr.cell? ⟨qb, k, none⟩ = some (.int .i64 (p : Int)) := own_cell hqr (by unfold natInts; rw [List.getElem?_map, List.getElem?_map, hp]; rfl)
                        obtain ⟨bp, hbp⟩ : ∃ bp, wt[p]? = some bp := ⟨_, List.getElem?_eq_getElem (by rw [HWTL.out]; exact hpj)⟩
                        have HBP := Lib.hid hbp
                        have hwtp : wt.getD p false = bp := by rw [List.getD_eq_getElem?_getD, hbp]; rfl
                        have HWTP := Lib.hid hwtp
                        obtain ⟨q5, q6, _⟩ := HS9.out.cellWait HWTL.out.symm hbp
                        have hdr : ∀ z, z ∈ pl.drop k → z = p ∨ z ∈ pl.drop (k + 1) := fun z hz => by
                          obtain ⟨h8, h9⟩ := List.getElem?_eq_some_iff.1 hp
                          rw [List.drop_eq_getElem_cons h8, h9] at hz
                          exact List.mem_cons.1 hz
                        have HDR := Lib.hid hdr
                        clear hp hqr hbp hwtp hdr
                        cases bp with
                        | true =>
                          have HWA := Lib.hid (HW9.out.skip (by rw [HN.out]; exact hpj) HWTP.out HDR.out)
                          go_wp2_with fail
                          exact ⟨⟨k + 1, _, _, by omega, by go_num, HS9.out, HWA.out, HB9.out⟩, by simp [intOf]; omega⟩
                        | false =>
                          have HWA := Lib.hid (HW9.out.push (by rw [HN.out]; exact hpj) HWTP.out HDR.out)
                          obtain ⟨X9, hX9⟩ : ∃ X9 : World, wr.setCell ⟨W2.heap.size, p, none⟩ (.bool true) = X9 := ⟨_, rfl⟩
                          have HSA9 : Hid (SolSt W.heap.size R X9 (.slice (some ⟨ib, 0, none⟩) j ivc) (.slice (some ⟨ob, 0, none⟩) j ovc) (.slice (some ⟨W.heap.size, 0, none⟩) j j) (.slice (some ⟨W2.heap.size, 0, none⟩) j j) (.slice k3a wk2.length k3c) (gi.set x (.slice sva (nw R) svc, blkB b 0 o2)) (go.set x (.slice vxa (nw R) vxc, o2)) prev (wt.set p true) wk2) := by
                            show SolSt _ _ _ _ _ _ _ _ _ _ _ _ _
                            rw [← hX9]
                            exact HS9.out.setWait HWTL.out.symm (by rw [HWTL.out]; exact hpj)
                          have HBA9 : Hid (Below W.heap.size W X9) := by show Below _ _ _; rw [← hX9]; exact HB9.out.setCell (show W.heap.size ≤ W2.heap.size from HB2.out.size) _
                          obtain ⟨VA, hVA⟩ : ∃ VA : World, X9.alloc (.cells #[.int .i64 (p : Int)] 3) = VA := ⟨_, rfl⟩
                          have HBVA : Hid (Below X9.heap.size X9 VA) := by show Below _ _ _; rw [← hVA]; exact (Below.refl _ _).alloc (Nat.le_refl _) _
                          have HCA : Hid (VA.cell? ⟨X9.heap.size, 0, none⟩ = some (.int .i64 (p : Int))) := by show _ = _; rw [← hVA]; exact World.cell?_alloc_new _ _ _ 0
                          have HSVA := Lib.hid (HSA9.out.keep HBVA.out)
                          have HBWA : Hid (Below W.heap.size W VA) := below_step HBA9.out HBVA.out
                          go_wp2_with (at_builtin; (refine wpList_append_int _ ?g1w (.tmp 160) (.tmp 162) ?g2w W.heap.size ?vw (natInts wk2) X9.heap.size (p : Int) ?a1w ?a2w ?a3w ?a4w ?a5w ?a6w ?_))
                          case g1w => rfl
                          case g2w => rfl
                          case a1w => rfl
                          case a3w => exact HSVA.out.ko
                          case a4w => exact HCA.out
                          case a5w => rw [natInts_len]; have := HK2.out; omega
                          case a6w => exact HBWA.out.size
                          clear hVA hX9
                          intro nv wA hn hg hpp
                          have HSB9 := Lib.hid (HSVA.out.addWork hg hn hpp)
                          have HBB9 : Hid (Below W.heap.size W wA) := HBWA.out.grown hg HBWA.out.size (fun k hk => (HSVA.out.ko.own hk).1)
                          obtain ⟨na, nc, rfl⟩ := IntRow.valN HSB9.out.ko
                          clear hn hg hpp q5 q6 qcell
                          go_wp2_with fail
                          exact ⟨⟨k + 1, _, _, by omega, by go_num, HSB9.out, HWA.out, HBB9.out⟩, by simp [intOf]; omega⟩
                      · obtain rfl : k = pl.length := by omega
                        have HWF := Lib.hid (HW9.out.weaken (Q := fun _ => False) (fun z hz => by rw [List.drop_length] at hz; simp at hz))
                        go_wp2_with fail
                        refine ⟨⟨⟨_, _, wt, wk2⟩, HS9.out, HWF.out, HB9.out⟩, ?_⟩
                        rw [← hmn.out]
                        exact Nat.lt_of_le_of_lt (leastM_le (a := ⟨gi.set x (.slice sva (nw R) svc, blkB b 0 o2), (go.set x (.slice vxa (nw R) vxc, o2)), wt, wk2⟩) ⟨HS9.out, HWF.out, HB9.out⟩) (HMG.out wk2 HK2.out)
                · skip
                  obtain ⟨m', rfl⟩ : ∃ m', m = m' + 1 := ⟨m - 1, by omega⟩
                  have e0 : ((m' + 1 : Nat) : Int) - 1 = (m' : Int) := by omega
                  rw [e0]
                  have hm0 : (0 : Int) ≤ (m' : Int) := by omega
                  have hm1 : m' < b.code.length := by omega
                  have hm2 : (m' : Int) < (b.code.length : Int) := by omega
                  obtain ⟨q, hq⟩ : ∃ q, b.code[m']? = some q := ⟨_, List.getElem?_eq_getElem hm1⟩
                  have HQ := Lib.hid hq
                  rcases HCODE.out.at_ with h0 | ⟨cb, co, rfl, hcc⟩
                  · omega
                  obtain ⟨c0, c1, c2, c3, c4, c5⟩ := (hcc m' q hq).below (HBW.out.trans (HBM.out.mono HBW.out.size))
                  clear e0 hcc hq hmp
                  go_wp2_with fail
                  refine (back_any q _ HLM.out (HBRK.out.ins q (List.mem_of_getElem? HQ.out)).2.2 HBM.out.size).mono ?_
                  rintro e w6 ⟨⟨u6, rfl⟩, hA, hT⟩
                  have HSN2 := Lib.hid (HSM.out.turnSet HLM.out HFR.out.1 HFR.out.2 hT)
                  have HLN : Hid (SetV W.heap.size R w6 (.slice sva (nw R) svc) (blkB b m' o2)) := by
                    show SetV _ _ _ _ _
                    rw [blkB_step HQ.out]
                    exact hA
                  have HBN : Hid (Below W.heap.size W w6) := HBM.out.trans (hT.below HBM.out.size (fun k hk => (HLM.out.own hk).1))
                  have HZN : Hid (w6.heap[X1.heap.size]? = some (.cells #[.slice (some ⟨cb, co, none⟩) b.code.length cc, .int .u8 b.kind, .int .i64 b.x, .int .i64 b.to, .int .i64 b.els] 43)) := block_other HLM.out.row HZM.out (by decide) hT
                  clear hA hT c0 c1 c2 c3 c4 c5 d0 d1 d2 d3 d4
                  go_wp2_with fail
                  exact ⟨⟨m', by omega, rfl, HSN2.out, HLN.out, HBN.out, HZN.out⟩, by simp [intOf]⟩
end Go.Proofs.YteknhnnlhhgppaaDoor
