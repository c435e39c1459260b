/-
  Contracts: Clone of a set, Equal of two sets, back, last (package liveness).
-/
import Derived.Test.YteknhnnlhhgppaaDoorLiveSet
import Derived.Test.YteknhnnlhhgppaaDoorMg3
import Derived.Test.YteknhnnlhhgppaaDoorMg1
import Derived.Lib.BufferMore
namespace Go.Proofs.YteknhnnlhhgppaaDoor
set_option linter.unusedVariables false
set_option linter.unusedSimpArgs false
open Go.RowKit
set_option maxRecDepth 100000
set_option maxHeartbeats 4000000

theorem below_cell {w w' : World} {b o : Nat} {v : Value} (hb : Below w.heap.size w w') (h : w.cell? ⟨b, o, none⟩ = some v) : w'.cell? ⟨b, o, none⟩ = some v := cell_below hb h
theorem six_cells {w : World} {b : Nat} {t : TypeId} {v0 v1 v2 v3 v4 v5 : Value} (h : w.heap[b]? = some (.cells #[v0, v1, v2, v3, v4, v5] t)) :
    w.cell? ⟨b, 0, none⟩ = some v0 ∧ w.cell? ⟨b, 1, none⟩ = some v1 ∧ w.cell? ⟨b, 2, none⟩ = some v2 ∧ w.cell? ⟨b, 3, none⟩ = some v3 ∧ w.cell? ⟨b, 4, none⟩ = some v4 ∧ w.cell? ⟨b, 5, none⟩ = some v5 :=
  ⟨cell_heap h 0, cell_heap h 1, cell_heap h 2, cell_heap h 3, cell_heap h 4, cell_heap h 5⟩
theorem uses_two (i : Ins) : i.uses.length ≤ 2 := by unfold Ins.uses; split <;> (try split) <;> simp
theorem clone_any {B R s : Nat} {v : Value} (w : World) (h : SetV B R w v s) :
    Calls Tryd.prog 78 #[v] w fun e w' => ∃ u, e = .returned u ∧ SetV w.heap.size R w' u s ∧ Below w.heap.size w w' := by
  obtain ⟨a, c, rfl⟩ := ownsRow_val h.row
  cases a with
  | none =>
    obtain ⟨h0, hc⟩ : nw R = 0 ∧ c = 0 := by
      rcases h.row.2 with ⟨hv, h0⟩ | ⟨g, cap, cur, hv, _⟩
      · injection hv with _ _ h3
        exact ⟨h0, h3⟩
      · injection hv with h3
        cases h3
    subst hc
    have HS := Lib.hid h
    have hnil : ∀ W, (binOp .eql 86 (.slice none 0 0) (.slice none 0 0)).run Tryd.prog W = .ok (.bool true) W := fun W => Lib.run_eql_slice_nil_nil W _ _ Tryd.underlying86
    rw [h0]
    clear h
    go_enter Tryd.func78, Tryd.ntmps78
    go_wp2_with fail
    go_ret
    refine ⟨_, rfl, ⟨?_, HS.out.lt, HS.out.few⟩, Below.refl _ _⟩
    rw [h0]
    exact World.ownsRow_nil _ _ _ _
  | some ad =>
    obtain ⟨i0, hi, hz0, hz1, hz2⟩ := info_parts Tryd.infoU64
    have HOWN : Hid ((w.alloc (.cells #[] 127)).ownsRow w.heap.size 127 1 (.slice (some ⟨w.heap.size, 0, none⟩) 0 0) 0 []) :=
      World.ownsRow_made _ #[] 0 (Nat.le_refl _) (by unfold maxLen; omega) rfl
    have HB0 : Hid (Below w.heap.size w (w.alloc (.cells #[] 127))) := (Below.refl _ _).alloc (Nat.le_refl _) _
    have hn1 : nw R ≤ 1 := by unfold nw; split <;> omega
    have HSRC : Hid (Src (w.alloc (.cells #[] 127)) (some ad) (nw R) 1 (List.replicate (nw R) (.int .u64 (s : Int)))) := by
      refine ⟨by simp, ?_⟩
      by_cases h0 : R = 0
      · left; unfold nw; rw [if_pos h0]
      · right
        obtain ⟨g, c', hv, _, _, hc, _⟩ := h.cells (show 0 < R by omega)
        have e : ad = ⟨g, 0, none⟩ := by injection hv with h3; injection h3
        refine ⟨ad, rfl, fun j u hu => ?_⟩
        rw [nw_pos (show 0 < R by omega)] at hu
        subst e
        match j, hu with
        | 0, hu => simp at hu; subst hu; exact cell_below HB0.out hc
    have HS := Lib.hid (And.intro h.lt h.few)
    have hnil : ∀ W, (binOp .eql 86 (.slice (some ad) (nw R) c) (.slice none 0 0)).run Tryd.prog W = .ok (.bool false) W := fun W => Lib.run_eql_slice_some_nil W _ _ _ Tryd.underlying86
    clear h
    go_enter Tryd.func78, Tryd.ntmps78
    go_wp2_with (at_builtin; refine wpList_append_src _ rfl (.tmp 5) (.tmp 6) 86 rfl w.heap.size 127 i0 _ 1 8 Tryd.underlying86 hi hz0 hz1 hz2 rfl (by decide) (.slice (some ⟨w.heap.size, 0, none⟩) 0 0) 0 [] rfl HOWN.out (some ad) (nw R) c (List.replicate (nw R) (.int .u64 (s : Int))) rfl HSRC.out (by intro u hu; rw [List.eq_of_mem_replicate hu]; rfl) (by unfold maxLen; omega) (by omega) (by simp) ?_)
    intro v' w2 hown2 hgrow _
    have HO2 := Lib.hid hown2
    have HB2 := Lib.hid (HB0.out.grown hgrow (by simp) (fun k hk => by cases hk; exact Nat.le_refl _))
    clear hown2 hgrow
    go_wp2_with fail
    go_ret
    refine ⟨_, rfl, ⟨?_, HS.out.1, HS.out.2⟩, HB2.out⟩
    exact HO2.out
theorem setEqual_any {B C R s t : Nat} {v u : Value} (w : World) (h : SetV B R w v s) (k : SetV C R w u t) :
    Calls Tryd.prog 75 #[v, u] w fun e w' => e = .returned (.bool (decide (s = t))) ∧ ∃ m, w' = World.drewN w m := by
  by_cases h0 : R = 0
  · subst h0
    obtain ⟨a, c, rfl⟩ := h.none
    obtain ⟨b, d, rfl⟩ := k.none
    have e : decide (s = t) = true := by rw [h.zero, k.zero]; rfl
    rw [e]
    clear h k e
    go_enter Tryd.func75, Tryd.ntmps75
    go_wp2_with fail
    go_loopw [13] (fun i wr => i = .int .i64 (0 : Int) ∧ wr = w) (fun _ _ => 0)
    case atStart => exact ⟨rfl, rfl⟩
    case round =>
      obtain ⟨rfl, rfl⟩ := hrel
      go_wp2_with fail
      go_ret
      exact ⟨rfl, 0, rfl⟩
  · have hr : 0 < R := by omega
    obtain ⟨g, c, rfl, _, _, hc, _⟩ := h.cells hr
    obtain ⟨g2, c2, rfl, _, _, hc2, _⟩ := k.cells hr
    clear h k
    by_cases hst : s = t
    · have e : decide (s = t) = true := by simpa using hst
      have e2 : ((s : Int) != (t : Int)) = false := by simp [hst]
      rw [e]
      clear hst
      go_enter Tryd.func75, Tryd.ntmps75
      go_wp2_with fail
      go_loopw [13] (fun i wr => (i = .int .i64 (0 : Int) ∧ wr = w) ∨ (i = .int .i64 (1 : Int) ∧ ∃ m, wr = w.drewN m)) (fun i _ => 1 - (intOf i).toNat)
      case atStart => exact .inl ⟨rfl, rfl⟩
      case round =>
        rcases hrel with ⟨rfl, rfl⟩ | ⟨rfl, m, rfl⟩
        · go_wp2_with fail
          go_quiet (fail)
          go_wp2_with fail
          exact ⟨.inr ⟨rfl, _, rfl⟩, by decide⟩
        · go_wp2_with fail
          go_ret
          exact ⟨rfl, m, rfl⟩
    · have e : decide (s = t) = false := by simpa using hst
      have e2 : ((s : Int) != (t : Int)) = true := by simp; omega
      rw [e]
      clear hst
      go_enter Tryd.func75, Tryd.ntmps75
      go_wp2_with fail
      go_loopw [13] (fun i wr => i = .int .i64 (0 : Int) ∧ wr = w) (fun i _ => 1 - (intOf i).toNat)
      case atStart => exact ⟨rfl, rfl⟩
      case round =>
        obtain ⟨rfl, rfl⟩ := hrel
        go_wp2_with fail
        go_quiet (fail)
        go_wp2_with fail
        go_ret
        exact ⟨rfl, _, rfl⟩
/-- back over one instruction -/
theorem back_any {B R s : Nat} {v : Value} (i : Ins) (w : World) (h : SetV B R w v s) (hi : InsR R i) (hB : B ≤ w.heap.size) :
    Calls Tryd.prog 48 #[v, i.val] w (SetEnd B R v (backB i s) w) := by
  have HS := Lib.hid h
  have HI := Lib.hid hi
  have ⟨va, vc, hv⟩ := ownsRow_val h.row
  subst hv
  obtain ⟨V, hV⟩ : ∃ V : World, w.alloc (.cells #[.int .u8 i.op, .int .i64 i.dst, .int .i64 i.x, .int .i64 i.y, .int .i64 i.imm, .string i.sym] 54) = V := ⟨_, rfl⟩
  have HBV : Hid (Below w.heap.size w V) := by show Below _ _ _; rw [← hV]; exact (Below.refl _ _).alloc (Nat.le_refl _) _
  have HZ : Hid (V.heap[w.heap.size]? = some (.cells #[.int .u8 i.op, .int .i64 i.dst, .int .i64 i.x, .int .i64 i.y, .int .i64 i.imm, .string i.sym] 54)) := by
    show _ = _
    rw [← hV]
    exact (MapKept.heap_alloc w _).1
  have HV0 := Lib.hid (HS.out.keep HBV.out)
  have hVs : V.heap.size = w.heap.size + 1 := by rw [← hV]; simp
  have HVS := Lib.hid hVs
  have hvs1 : w.heap.size < V.heap.size := by omega
  obtain ⟨c0, c1, c2, c3, c4, c5⟩ := six_cells HZ.out
  clear h hi hVs
  unfold Ins.val
  go_enter Tryd.func48, Tryd.ntmps48
  go_wp2_with fail
  clear hV
  have hvo : ∀ k, (Value.slice va (nw R) vc).ownBlock = some k → B ≤ k ∧ k < w.heap.size := fun k hk => HS.out.own hk
  have HVO := Lib.hid hvo
  clear hvo c0 c1 c2 c3 c4 c5
  refine (defines_any i _).mono ?_
  unfold DefOk
  rintro e w1 ⟨rfl, hB1⟩
  have HZ1 : Hid (w1.heap[w.heap.size]? = some (.cells #[.int .u8 i.op, .int .i64 i.dst, .int .i64 i.x, .int .i64 i.y, .int .i64 i.imm, .string i.sym] 54)) := (hB1.block _ hvs1).trans HZ.out
  have HV1 := Lib.hid (HV0.out.keep hB1)
  have HT1 : Hid (Turn (.slice va (nw R) vc) w w1) := Turn.of (below_step HBV.out hB1)
  have hw1 : w.heap.size < w1.heap.size := Nat.lt_of_lt_of_le hvs1 hB1.size
  clear hB1 hvs1
  have key : ∀ w2, SetV B R w2 (.slice va (nw R) vc) (defB i s) → Turn (.slice va (nw R) vc) w1 w2 → Hid (w2.heap[w.heap.size]? = some (.cells #[.int .u8 i.op, .int .i64 i.dst, .int .i64 i.x, .int .i64 i.y, .int .i64 i.imm, .string i.sym] 54)) := fun w2 _ hT =>
    (hT.block _ hw1 (fun e => by have := (HVO.out _ e).2; omega)).trans HZ1.out
  have HKEY := Lib.hid key
  clear key
  obtain ⟨K, hK⟩ : ∃ K : Option Int, i.defines = K := ⟨_, rfl⟩
  rw [hK]
  have HD := Lib.hid hK
  cases K with
  | none =>
    have ed : defB i s = s := by unfold defB; rw [hK]
    have HT2 := Lib.hid (Turn.refl (.slice va (nw R) vc) w1)
    have HV2 : Hid (SetV B R w1 (.slice va (nw R) vc) (defB i s)) := by show SetV _ _ _ _ _; rw [ed]; exact HV1.out
    obtain ⟨c0, c1, c2, c3, c4, c5⟩ := six_cells (HKEY.out w1 HV2.out HT2.out).out
    clear hK ed
    obtain ⟨w2, rfl⟩ : ∃ w2 : World, w2 = w1 := ⟨_, rfl⟩
    go_wp2_with fail
    refine (uses_any i _).mono ?_
    rintro e w3 ⟨uv, rfl, hU, hB3⟩
    have HV3 := Lib.hid (HV2.out.keep hB3)
    have HT3 := Lib.hid ((HT1.out.trans HT2.out).trans (Turn.of hB3))
    obtain ⟨ua, uc, rfl⟩ : ∃ ua uc, uv = .slice ua i.uses.length uc := by
      rcases hU with ⟨h1, h2⟩ | ⟨b, off, cap, h2, _⟩
      · exact ⟨none, 0, by rw [h2, h1]; rfl⟩
      · exact ⟨_, _, h2⟩
    have HU := Lib.hid hU
    have h23 : w.heap.size ≤ w2.heap.size := Nat.le_trans (Nat.le_of_lt hw1) HT2.out.size
    have hul := uses_two i
    obtain ⟨un, hun⟩ : ∃ n, i.uses.length = n := ⟨_, rfl⟩
    have HUN := Lib.hid hun
    rw [hun] at hul
    rw [hun] at HU ⊢
    clear hU hB3 c0 c1 c2 c3 c4 c5 hun
    go_wp2_with fail
    go_loopw [20] (fun j wr => ∃ k : Nat, k ≤ un ∧ j = .int .i64 (k : Int) ∧ SetV B R wr (.slice va (nw R) vc) (useB (i.uses.take k) (defB i s)) ∧ Turn (.slice va (nw R) vc) w3 wr) (fun j _ => un - (intOf j).toNat)
    case atStart => exact ⟨0, Nat.zero_le _, rfl, HV3.out, Turn.refl _ _⟩
    case round =>
      obtain ⟨k, hk, rfl, hS, hT⟩ := hrel
      have HSK := Lib.hid hS
      have HTK := Lib.hid hT
      have hk0 : (0 : Int) ≤ (k : Int) := by omega
      clear hS hT
      by_cases hlt : k < un
      · have hlt2 : (k : Int) < (un : Int) := by omega
        have hkl : k < i.uses.length := by have := HUN.out; omega
        obtain ⟨q, hq⟩ : ∃ q, i.uses[k]? = some q := ⟨_, List.getElem?_eq_getElem hkl⟩
        obtain ⟨hq0, hq1⟩ := HI.out.use q (List.mem_of_getElem? hq)
        obtain ⟨r, rfl⟩ : ∃ r : Nat, q = (r : Int) := ⟨q.toNat, by omega⟩
        have hr1 : r < R := by omega
        rcases HU.out with ⟨h1, _⟩ | ⟨bb, off, cap, hv3, hb1, _, hb2, hc⟩
        · have := HUN.out; rw [h1] at this; simp at this; omega
        · obtain ⟨rfl⟩ : ua = some ⟨bb, off, none⟩ := by injection hv3
          have hcell : wr.cell? ⟨bb, off + k, none⟩ = some (.int .i64 (r : Int)) := by
            rw [World.cell?_of_block (a := ⟨bb, off + k, none⟩) (HTK.out.block bb hb2 (fun e => by have := (HVO.out _ e).2; omega)), hc k hkl, List.getD_eq_getElem?_getD, hq]
            rfl
          have HNX : Hid (useB (i.uses.take (k + 1)) (defB i s) = addB (useB (i.uses.take k) (defB i s)) r) := by
            show _ = _
            unfold useB
            rw [take_snoc hq, List.foldl_append]
            rfl
          clear hv3 hb1 hb2 hc hq hq0 hq1
          go_wp2_with fail
          refine (add_any r _ HSK.out hr1).mono ?_
          rintro e w4 ⟨⟨u4, rfl⟩, hA, hT4⟩
          have HA := Lib.hid hA
          have HT4 := Lib.hid hT4
          clear hA hT4
          go_wp2_with fail
          exact ⟨⟨k + 1, by omega, by go_num, by rw [HNX.out]; exact HA.out, HTK.out.trans HT4.out⟩, by simp [intOf]; omega⟩
      · obtain rfl : k = un := by omega
        have HFN : Hid (useB (i.uses.take k) (defB i s) = backB i s) := by show _ = _; unfold backB; rw [List.take_of_length_le (by have := HUN.out; omega)]
        go_wp2_with fail
        go_end0
        exact ⟨⟨_, rfl⟩, HFN.out ▸ HSK.out, HT3.out.trans HTK.out⟩
  | some d =>
    obtain ⟨hd0, hd1⟩ := HI.out.dfn d hK
    obtain ⟨r, rfl⟩ : ∃ r : Nat, d = (r : Int) := ⟨d.toNat, by omega⟩
    have hr1 : r < R := by omega
    have ed : defB i s = remB s r := by unfold defB; rw [hK]; rfl
    have HED := Lib.hid ed
    clear hK ed
    simp only [Option.getD_some, Option.isSome_some]
    go_wp2_with fail
    refine (remove_any r _ HV1.out hr1).mono ?_
    rintro e w2 ⟨⟨u2, rfl⟩, hA, hT⟩
    have HV2 : Hid (SetV B R w2 (.slice va (nw R) vc) (defB i s)) := by show SetV _ _ _ _ _; rw [HED.out]; exact hA
    have HT2 := Lib.hid hT
    obtain ⟨c0, c1, c2, c3, c4, c5⟩ := six_cells (HKEY.out w2 HV2.out HT2.out).out
    clear hA hT
    go_wp2_with fail
    refine (uses_any i _).mono ?_
    rintro e w3 ⟨uv, rfl, hU, hB3⟩
    have HV3 := Lib.hid (HV2.out.keep hB3)
    have HT3 := Lib.hid ((HT1.out.trans HT2.out).trans (Turn.of hB3))
    obtain ⟨ua, uc, rfl⟩ : ∃ ua uc, uv = .slice ua i.uses.length uc := by
      rcases hU with ⟨h1, h2⟩ | ⟨b, off, cap, h2, _⟩
      · exact ⟨none, 0, by rw [h2, h1]; rfl⟩
      · exact ⟨_, _, h2⟩
    have HU := Lib.hid hU
    have h23 : w.heap.size ≤ w2.heap.size := Nat.le_trans (Nat.le_of_lt hw1) HT2.out.size
    have hul := uses_two i
    obtain ⟨un, hun⟩ : ∃ n, i.uses.length = n := ⟨_, rfl⟩
    have HUN := Lib.hid hun
    rw [hun] at hul
    rw [hun] at HU ⊢
    clear hU hB3 c0 c1 c2 c3 c4 c5 hun
    go_wp2_with fail
    go_loopw [20] (fun j wr => ∃ k : Nat, k ≤ un ∧ j = .int .i64 (k : Int) ∧ SetV B R wr (.slice va (nw R) vc) (useB (i.uses.take k) (defB i s)) ∧ Turn (.slice va (nw R) vc) w3 wr) (fun j _ => un - (intOf j).toNat)
    case atStart => exact ⟨0, Nat.zero_le _, rfl, HV3.out, Turn.refl _ _⟩
    case round =>
      obtain ⟨k, hk, rfl, hS, hT⟩ := hrel
      have HSK := Lib.hid hS
      have HTK := Lib.hid hT
      have hk0 : (0 : Int) ≤ (k : Int) := by omega
      clear hS hT
      by_cases hlt : k < un
      · have hlt2 : (k : Int) < (un : Int) := by omega
        have hkl : k < i.uses.length := by have := HUN.out; omega
        obtain ⟨q, hq⟩ : ∃ q, i.uses[k]? = some q := ⟨_, List.getElem?_eq_getElem hkl⟩
        obtain ⟨hq0, hq1⟩ := HI.out.use q (List.mem_of_getElem? hq)
        obtain ⟨r, rfl⟩ : ∃ r : Nat, q = (r : Int) := ⟨q.toNat, by omega⟩
        have hr1 : r < R := by omega
        rcases HU.out with ⟨h1, _⟩ | ⟨bb, off, cap, hv3, hb1, _, hb2, hc⟩
        · have := HUN.out; rw [h1] at this; simp at this; omega
        · obtain ⟨rfl⟩ : ua = some ⟨bb, off, none⟩ := by injection hv3
          have hcell : wr.cell? ⟨bb, off + k, none⟩ = some (.int .i64 (r : Int)) := by
            rw [World.cell?_of_block (a := ⟨bb, off + k, none⟩) (HTK.out.block bb hb2 (fun e => by have := (HVO.out _ e).2; omega)), hc k hkl, List.getD_eq_getElem?_getD, hq]
            rfl
          have HNX : Hid (useB (i.uses.take (k + 1)) (defB i s) = addB (useB (i.uses.take k) (defB i s)) r) := by
            show _ = _
            unfold useB
            rw [take_snoc hq, List.foldl_append]
            rfl
          clear hv3 hb1 hb2 hc hq hq0 hq1
          go_wp2_with fail
          refine (add_any r _ HSK.out hr1).mono ?_
          rintro e w4 ⟨⟨u4, rfl⟩, hA, hT4⟩
          have HA := Lib.hid hA
          have HT4 := Lib.hid hT4
          clear hA hT4
          go_wp2_with fail
          exact ⟨⟨k + 1, by omega, by go_num, by rw [HNX.out]; exact HA.out, HTK.out.trans HT4.out⟩, by simp [intOf]; omega⟩
      · obtain rfl : k = un := by omega
        have HFN : Hid (useB (i.uses.take k) (defB i s) = backB i s) := by show _ = _; unfold backB; rw [List.take_of_length_le (by have := HUN.out; omega)]
        go_wp2_with fail
        go_end0
        exact ⟨⟨_, rfl⟩, HFN.out ▸ HSK.out, HT3.out.trans HTK.out⟩
theorem last_any {B R s : Nat} {v : Value} (b : Blk) (a : Option Addr) (c : Nat) (w : World) (h : SetV B R w v s) (hb : EndR R b) :
    Calls Tryd.prog 47 #[b.val a c, v] w fun e w' => ∃ u, e = .returned u ∧ SetV w.heap.size R w' u (lastB b s) ∧ Below w.heap.size w w' := by
  have HS := Lib.hid h
  have HE := Lib.hid hb
  have ⟨va, vc, hv⟩ := ownsRow_val h.row
  subst hv
  obtain ⟨V, hV⟩ : ∃ V : World, w.alloc (.cells #[.slice a b.code.length c, .int .u8 b.kind, .int .i64 b.x, .int .i64 b.to, .int .i64 b.els] 43) = V := ⟨_, rfl⟩
  have HBV : Hid (Below w.heap.size w V) := by show Below _ _ _; rw [← hV]; exact (Below.refl _ _).alloc (Nat.le_refl _) _
  have c1 : V.cell? ⟨w.heap.size, 1, none⟩ = some (.int .u8 b.kind) := by rw [← hV]; simp
  have c2 : V.cell? ⟨w.heap.size, 2, none⟩ = some (.int .i64 b.x) := by rw [← hV]; simp
  have HC := Lib.hid (And.intro c1 c2)
  have hVs : V.heap.size = w.heap.size + 1 := by rw [← hV]; simp
  have HVS := Lib.hid hVs
  clear h hb c1 c2 hVs
  unfold Blk.val
  go_enter Tryd.func47, Tryd.ntmps47
  go_wp2_with fail
  clear hV
  refine (clone_any _ (HS.out.keep HBV.out)).mono ?_
  rintro e w1 ⟨u, rfl, hU, hB1⟩
  have HU := Lib.hid hU
  have HB1 := Lib.hid (below_step HBV.out hB1)
  have c1 := below_cell hB1 HC.out.1
  have c2 := below_cell hB1 HC.out.2
  obtain ⟨ua, uc, rfl⟩ := ownsRow_val hU.row
  clear hU hB1
  by_cases hk : b.kind = 2
  · have hk2 : (b.kind == 2) = true := by simpa using hk
    obtain ⟨hx0, hx1⟩ := HE.out hk
    obtain ⟨r, hr⟩ : ∃ r : Nat, b.x = (r : Int) := ⟨b.x.toNat, by omega⟩
    have hr1 : r < R := by omega
    have e : lastB b s = addB s r := by unfold lastB; rw [if_pos hk, hr]; rfl
    have HEQ := Lib.hid e
    rw [hr] at c2
    clear hk e hr
    go_wp2_with fail
    refine (add_any r _ HU.out hr1).mono ?_
    rintro e w2 ⟨⟨u2, rfl⟩, hA, hT⟩
    have HA := Lib.hid hA
    have HT := Lib.hid hT
    clear hA hT
    go_wp2_with fail
    go_ret
    exact ⟨_, rfl, by have := HA.out.base (B' := w.heap.size) (by have := HVS.out; omega); rw [HEQ.out]; exact this, HB1.out.trans (HT.out.below HB1.out.size (fun k hk => by have := (HU.out.own hk).1; have := HVS.out; omega))⟩
  · have hk2 : (b.kind == 2) = false := by simpa using hk
    have e : lastB b s = s := by unfold lastB; rw [if_neg hk]
    have HEQ := Lib.hid e
    clear hk e
    go_wp2_with fail
    go_ret
    exact ⟨_, rfl, by have := HU.out.base (B' := w.heap.size) (by have := HVS.out; omega); rw [HEQ.out]; exact this, HB1.out⟩
end Go.Proofs.YteknhnnlhhgppaaDoor
