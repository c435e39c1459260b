/-
  Contracts: registers, Form (package ontimeref19).
-/
import Derived.Test.YteknhnnlhhgppaaDoorMg27
import Derived.Test.YteknhnnlhhgppaaDoorIrOwn
import Derived.StillTailTactics
namespace Go.Proofs.YteknhnnlhhgppaaDoor
set_option linter.unusedVariables false
set_option linter.unusedSimpArgs false
open Go.RowKit
set_option maxRecDepth 100000
set_option maxHeartbeats 16000000

theorem registers_any (f : Fn) (aa ba : Option Addr) (an ac bn bc : Nat) (q : Ins) (w : World) (h0 : 0 ≤ q.op) (h1 : q.op ≤ 255) :
    Calls Tryd.prog 43 #[fnVal f.name f.regs aa an ac ba bn bc, q.val] w (Tells ((∀ r ∈ q.uses, 0 ≤ r ∧ r < f.regs) ∧ ∀ d, q.defines = some d → 0 ≤ d ∧ d < f.regs) w) := by
  obtain ⟨W, hW⟩ : ∃ W : World, (w.alloc (.cells #[.string f.name, .int .i64 f.regs, .slice aa an ac, .slice ba bn bc] 36)).alloc (.cells #[.int .u8 q.op, .int .i64 q.dst, .int .i64 q.x, .int .i64 q.y, .int .i64 q.imm, .string q.sym] 91) = W := ⟨_, rfl⟩
  have hWs : W.heap.size = w.heap.size + 2 := by rw [← hW]; simp
  have HBW : Hid (Below w.heap.size w W) := by show Below _ _ _; rw [← hW]; exact ((Below.refl _ _).alloc (Nat.le_refl _) _).alloc (by simp) _
  have HX : Hid (W.heap[w.heap.size]? = some (.cells #[.string f.name, .int .i64 f.regs, .slice aa an ac, .slice ba bn bc] 36)) := by
    show _ = _
    rw [← hW, Below.heap_alloc _ _ _ (by simp)]
    exact (MapKept.heap_alloc w _).1
  have HZ : Hid (W.heap[w.heap.size + 1]? = some (.cells #[.int .u8 q.op, .int .i64 q.dst, .int .i64 q.x, .int .i64 q.y, .int .i64 q.imm, .string q.sym] 91)) := by
    show _ = _
    rw [← hW]
    exact MapKept.heap_alloc (w.alloc _) _ |>.1 |> fun h => by simpa using h
  have HXC : Hid (∀ w', Below W.heap.size W w' → w'.cell? ⟨w.heap.size, 1, none⟩ = some (.int .i64 f.regs)) := fun w' h => cell_heap ((h.block _ (show w.heap.size < W.heap.size by omega)).trans HX.out) 1
  have HZC : Hid (∀ w', Below W.heap.size W w' → w'.heap[w.heap.size + 1]? = some (.cells #[.int .u8 q.op, .int .i64 q.dst, .int .i64 q.x, .int .i64 q.y, .int .i64 q.imm, .string q.sym] 91)) := fun w' h => (h.block _ (show w.heap.size + 1 < W.heap.size by omega)).trans HZ.out
  have HOP := Lib.hid (And.intro h0 h1)
  obtain ⟨c0, c1, c2, c3, c4, c5⟩ := six_cells HZ.out
  -- the loop over a list
  clear h0 h1 hWs
  unfold Ins.val
  go_enter Tryd.func43, Tryd.ntmps43
  go_wp2_with fail
  clear hW c0 c1 c2 c3 c4 c5
  refine (refUses_any q _ HOP.out.1 HOP.out.2).mono ?_
  rintro e w1 ⟨uv, rfl, hU, hB1⟩
  have HU1 := Lib.hid hU.at_
  have HUI := Lib.hid hU
  have HB1 := Lib.hid hB1
  obtain ⟨ua, uc, rfl⟩ : ∃ ua uc, uv = .slice ua q.uses.length uc := by
    rcases hU with ⟨h1, h2⟩ | ⟨b', off', cap, h2, _⟩
    · exact ⟨none, 0, by rw [h2, h1]; rfl⟩
    · exact ⟨_, _, h2⟩
  obtain ⟨c0, c1, c2, c3, c4, c5⟩ := six_cells (HZC.out w1 hB1)
  have hul := uses_two q
  clear hU hB1
  go_wp2_with fail
  clear c0 c1 c2 c3 c4 c5
  refine (refDefines_any q _ HOP.out.1 HOP.out.2).mono ?_
  unfold DefOk
  rintro e w2 ⟨rfl, hB2⟩
  have HB2 : Hid (Below W.heap.size W w2) := below_step HB1.out hB2
  have HU2 := Lib.hid (HU1.out.below hB2)
  clear hB2
  obtain ⟨K, hK⟩ : ∃ K : Option Int, q.defines = K := ⟨_, rfl⟩
  rw [hK]
  have HD := Lib.hid hK
  clear hK
  cases K with
  | none =>
    simp only [Option.getD_none, Option.isSome_none]
    obtain ⟨L, hL⟩ : ∃ L, q.uses = L := ⟨_, rfl⟩
    have HL : Hid (∀ r, r ∈ L ↔ r ∈ q.uses ∨ q.defines = some r) := fun r => by rw [HD.out, hL]; simp
    rw [hL] at hul HU2 ⊢
    obtain ⟨ln, hln⟩ : ∃ ln, L.length = ln := ⟨_, rfl⟩
    have HLN := Lib.hid hln
    rw [hln] at hul HU2 ⊢
    have HLA : Hid (IntsAt w2 (.slice ua ln uc) L) := HU2.out
    have HLA : Hid (∃ a c, (Value.slice ua ln uc) = .slice a ln c ∧ (ln = 0 ∨ ∃ b off, a = some ⟨b, off, none⟩ ∧ b < w2.heap.size ∧ ∀ (i : Nat) (x : Int), L[i]? = some x → w2.cell? ⟨b, off + i, none⟩ = some (.int .i64 x))) := by
      have h9 := HLA.out
      unfold IntsAt at h9
      rw [hln] at h9
      exact h9
    clear hL hln
    go_wp2_with fail
    rcases HLA.out with ⟨_, _, e9, hla⟩
    injection e9 with e9 _ e8
    subst e9 e8
    have HLC := Lib.hid hla
    clear hla
    go_loopw [8] (fun i wr => ∃ j : Nat, j ≤ ln ∧ i = .int .i64 (j : Int) ∧ (∀ r ∈ L.take j, 0 ≤ r ∧ r < f.regs) ∧ Below w2.heap.size w2 wr) (fun i _ => ln - (intOf i).toNat)
    case atStart => exact ⟨0, Nat.zero_le _, rfl, by simp, Below.refl _ _⟩
    case round =>
      obtain ⟨j, hj, rfl, hall, hbel⟩ := hrel
      have HALL := Lib.hid hall
      have HBJ := Lib.hid hbel
      have HBW2 : Hid (Below W.heap.size W wr) := below_step HB2.out hbel
      have HBF : Hid (Below w.heap.size w wr) := HBW.out.trans (HBW2.out.mono HBW.out.size)
      have x1 := HXC.out wr HBW2.out
      have hj0 : (0 : Int) ≤ (j : Int) := by omega
      clear hall hbel
      by_cases hlt : j < ln
      · have hlt2 : (j : Int) < (ln : Int) := by omega
        obtain ⟨r, hr⟩ : ∃ r, L[j]? = some r := ⟨_, List.getElem?_eq_getElem (by rw [HLN.out]; exact hlt)⟩
        have HR := Lib.hid hr
        rcases HLC.out with h0 | ⟨lb, lo, rfl, _, hc⟩
        · have := HLN.out; omega
        have hcell := cell_below HBJ.out (hc j r hr)
        clear hc hr
        by_cases hr0 : r < 0
        · have HNO : Hid (¬ ((∀ r ∈ q.uses, 0 ≤ r ∧ r < f.regs) ∧ ∀ d, q.defines = some d → 0 ≤ d ∧ d < f.regs)) := fun h => by
            rcases (HL.out r).1 (List.mem_of_getElem? HR.out) with h9 | h9
            · have := h.1 r h9; omega
            · have := h.2 r h9; omega
          go_wp2_with fail
          go_quiet (fail)
          go_wp2_with fail
          go_ret
          exact ⟨false, rfl, ⟨fun h => by simp at h, fun h => absurd h HNO.out⟩, below_step HBF.out ⟨rfl, rfl, rfl, Nat.le_refl _, fun _ _ => rfl⟩⟩
        have hr0d : decide (r < 0) = false := by simpa using hr0
        by_cases hr1 : f.regs ≤ r
        · have HNO : Hid (¬ ((∀ r ∈ q.uses, 0 ≤ r ∧ r < f.regs) ∧ ∀ d, q.defines = some d → 0 ≤ d ∧ d < f.regs)) := fun h => by
            rcases (HL.out r).1 (List.mem_of_getElem? HR.out) with h9 | h9
            · have := h.1 r h9; omega
            · have := h.2 r h9; omega
          go_wp2_with fail
          go_quiet (fail)
          go_wp2_with fail
          go_ret
          exact ⟨false, rfl, ⟨fun h => by simp at h, fun h => absurd h HNO.out⟩, below_step HBF.out ⟨rfl, rfl, rfl, Nat.le_refl _, fun _ _ => rfl⟩⟩
        have hr1d : decide (f.regs ≤ r) = false := by simpa using hr1
        have HNX : Hid (∀ z ∈ L.take (j + 1), 0 ≤ z ∧ z < f.regs) := fun z hz => by
          rw [take_snoc HR.out] at hz
          rcases List.mem_append.1 hz with hz | hz
          · exact HALL.out z hz
          · rw [List.mem_singleton.1 hz]; omega
        go_wp2_with fail
        go_quiet (fail)
        go_wp2_with fail
        exact ⟨⟨j + 1, by omega, by go_num, HNX.out, below_step HBJ.out ⟨rfl, rfl, rfl, Nat.le_refl _, fun _ _ => rfl⟩⟩, by simp [intOf]; omega⟩
      · obtain rfl : ln = j := by omega
        have HA : Hid (∀ r ∈ L, 0 ≤ r ∧ r < f.regs) := by have := HALL.out; rwa [← HLN.out, List.take_length] at this
        go_wp2_with fail
        go_ret
        exact ⟨true, rfl, ⟨fun _ => ⟨fun r hr => HA.out r ((HL.out r).2 (.inl hr)), fun d hd => HA.out d ((HL.out d).2 (.inr hd))⟩, fun _ => rfl⟩, HBF.out⟩
  | some d =>
    simp only [Option.getD_some, Option.isSome_some]
    obtain ⟨i0, hi, hz0, hz1, hz2⟩ := info_parts Tryd.infoInt
    obtain ⟨V, hV⟩ : ∃ V : World, w2.alloc (.cells #[] 3) = V := ⟨_, rfl⟩
    have HBV : Hid (Below w2.heap.size w2 V) := by show Below _ _ _; rw [← hV]; exact (Below.refl _ _).alloc (Nat.le_refl _) _
    have HMADE : Hid (V.ownsRow w2.heap.size 3 1 (.slice (some ⟨w2.heap.size, 0, none⟩) 0 0) 0 []) := by
      show World.ownsRow _ _ _ _ _ _ _
      rw [← hV]
      exact World.ownsRow_made _ #[] 0 (Nat.le_refl _) (by unfold maxLen; omega) rfl
    have HSRC : Hid (Src V ua q.uses.length 1 (q.uses.map (Value.int .i64))) := by
      refine ⟨by simp, ?_⟩
      obtain ⟨_, _, e9, h9⟩ := HU2.out.below HBV.out
      injection e9 with e9 _ _
      subst e9
      rcases h9 with h9 | ⟨b, off, rfl, _, hc⟩
      · exact .inl h9
      · refine .inr ⟨_, rfl, fun j u hu => ?_⟩
        rw [List.getElem?_map] at hu
        obtain ⟨x, hx, rfl⟩ := Option.map_eq_some_iff.1 hu
        rw [own_addr_add]
        exact hc j x hx
    have HVS : Hid (V.heap.size = w2.heap.size + 1) := by show _ = _; rw [← hV]; simp
    go_wp2_with (at_builtin; refine wpList_append_src _ rfl (.tmp 17) (.tmp 18) 39 rfl w2.heap.size 3 i0 _ 1 8 Tryd.underlying39 hi hz0 hz1 hz2 rfl (by decide) (.slice (some ⟨w2.heap.size, 0, none⟩) 0 0) 0 [] rfl HMADE.out ua q.uses.length uc (q.uses.map (Value.int .i64)) rfl HSRC.out (by intro u hu; obtain ⟨x, _, rfl⟩ := List.mem_map.1 hu; rfl) (by unfold maxLen; omega) (by omega) (by have := HVS.out; omega) ?_)
    clear hV
    intro v3 w3 hn3 hg3 _
    have HR3 : Hid (IntRow w2.heap.size w3 v3 q.uses) := by
      show World.ownsRow _ _ _ _ _ _ _
      exact hn3
    have HB3 : Hid (Below W.heap.size W w3) := (below_step HB2.out HBV.out).grown hg3 (by have := HVS.out; have := HB2.out.size; omega) (fun k hk => by cases hk; exact HB2.out.size)
    obtain ⟨va, vc, rfl⟩ := HR3.out.val
    have HS3 : Hid (w2.heap.size ≤ w3.heap.size) := Nat.le_trans HBV.out.size hg3.size
    obtain ⟨V4, hV4⟩ : ∃ V4 : World, w3.alloc (.cells #[.int .i64 d] 3) = V4 := ⟨_, rfl⟩
    have HBV4 : Hid (Below w3.heap.size w3 V4) := by show Below _ _ _; rw [← hV4]; exact (Below.refl _ _).alloc (Nat.le_refl _) _
    have HC4 : Hid (V4.cell? ⟨w3.heap.size, 0, none⟩ = some (.int .i64 d)) := by show _ = _; rw [← hV4]; exact World.cell?_alloc_new _ _ _ 0
    clear hn3 hg3
    go_wp2_with (at_builtin; (refine wpList_append_int _ ?g1 (.tmp 19) (.tmp 21) ?g2 w2.heap.size ?v q.uses w3.heap.size d ?a1 ?a2 ?a3 ?a4 ?a5 ?a6 ?_))
    case g1 => rfl
    case g2 => rfl
    case a1 => rfl
    case a2 => rfl
    case a3 => exact HR3.out.keep HBV4.out
    case a4 => exact HC4.out
    case a5 => omega
    case a6 => exact Nat.le_trans HS3.out HBV4.out.size
    clear hV4
    intro v4 w4 hn4 hg4 _
    have HB4 : Hid (Below W.heap.size W w4) := (below_step HB3.out HBV4.out).grown hg4 (Nat.le_trans HB3.out.size HBV4.out.size) (fun k hk => Nat.le_trans HB2.out.size ((HR3.out.keep HBV4.out).own hk).1)
    obtain ⟨L, hL⟩ : ∃ L, q.uses ++ [d] = L := ⟨_, rfl⟩
    have HL : Hid (∀ r, r ∈ L ↔ r ∈ q.uses ∨ q.defines = some r) := fun r => by rw [HD.out, ← hL]; simp [eq_comm]
    have hul3 : L.length ≤ 3 := by rw [← hL]; simp; omega
    rw [hL] at hn4
    obtain ⟨la, lc, rfl⟩ := hn4.val
    have h4 := hn4.at_
    obtain ⟨ln, hln⟩ : ∃ ln, L.length = ln := ⟨_, rfl⟩
    have HLN := Lib.hid hln
    have HLA : Hid (∃ a c, (Value.slice la ln lc) = .slice a ln c ∧ (ln = 0 ∨ ∃ b off, a = some ⟨b, off, none⟩ ∧ b < w4.heap.size ∧ ∀ (i : Nat) (x : Int), L[i]? = some x → w4.cell? ⟨b, off + i, none⟩ = some (.int .i64 x))) := by
      have h9 := h4
      unfold IntsAt at h9
      rw [hln] at h9
      exact h9
    rw [hln] at hul3 ⊢
    clear hL hln hn4 hg4 h4
    go_wp2_with fail
    rcases HLA.out with ⟨_, _, e9, hla⟩
    injection e9 with e9 _ e8
    subst e9 e8
    have HLC := Lib.hid hla
    clear hla
    go_loopw [8] (fun i wr => ∃ j : Nat, j ≤ ln ∧ i = .int .i64 (j : Int) ∧ (∀ r ∈ L.take j, 0 ≤ r ∧ r < f.regs) ∧ Below w4.heap.size w4 wr) (fun i _ => ln - (intOf i).toNat)
    case atStart => exact ⟨0, Nat.zero_le _, rfl, by simp, Below.refl _ _⟩
    case round =>
      obtain ⟨j, hj, rfl, hall, hbel⟩ := hrel
      have HALL := Lib.hid hall
      have HBJ := Lib.hid hbel
      have HBW2 : Hid (Below W.heap.size W wr) := below_step HB4.out hbel
      have HBF : Hid (Below w.heap.size w wr) := HBW.out.trans (HBW2.out.mono HBW.out.size)
      have x1 := HXC.out wr HBW2.out
      have hj0 : (0 : Int) ≤ (j : Int) := by omega
      clear hall hbel
      by_cases hlt : j < ln
      · have hlt2 : (j : Int) < (ln : Int) := by omega
        obtain ⟨r, hr⟩ : ∃ r, L[j]? = some r := ⟨_, List.getElem?_eq_getElem (by rw [HLN.out]; exact hlt)⟩
        have HR := Lib.hid hr
        rcases HLC.out with h0 | ⟨lb, lo, rfl, _, hc⟩
        · have := HLN.out; omega
        have hcell := cell_below HBJ.out (hc j r hr)
        clear hc hr
        by_cases hr0 : r < 0
        · have HNO : Hid (¬ ((∀ r ∈ q.uses, 0 ≤ r ∧ r < f.regs) ∧ ∀ d, q.defines = some d → 0 ≤ d ∧ d < f.regs)) := fun h => by
            rcases (HL.out r).1 (List.mem_of_getElem? HR.out) with h9 | h9
            · have := h.1 r h9; omega
            · have := h.2 r h9; omega
          go_wp2_with fail
          go_quiet (fail)
          go_wp2_with fail
          go_ret
          exact ⟨false, rfl, ⟨fun h => by simp at h, fun h => absurd h HNO.out⟩, below_step HBF.out ⟨rfl, rfl, rfl, Nat.le_refl _, fun _ _ => rfl⟩⟩
        have hr0d : decide (r < 0) = false := by simpa using hr0
        by_cases hr1 : f.regs ≤ r
        · have HNO : Hid (¬ ((∀ r ∈ q.uses, 0 ≤ r ∧ r < f.regs) ∧ ∀ d, q.defines = some d → 0 ≤ d ∧ d < f.regs)) := fun h => by
            rcases (HL.out r).1 (List.mem_of_getElem? HR.out) with h9 | h9
            · have := h.1 r h9; omega
            · have := h.2 r h9; omega
          go_wp2_with fail
          go_quiet (fail)
          go_wp2_with fail
          go_ret
          exact ⟨false, rfl, ⟨fun h => by simp at h, fun h => absurd h HNO.out⟩, below_step HBF.out ⟨rfl, rfl, rfl, Nat.le_refl _, fun _ _ => rfl⟩⟩
        have hr1d : decide (f.regs ≤ r) = false := by simpa using hr1
        have HNX : Hid (∀ z ∈ L.take (j + 1), 0 ≤ z ∧ z < f.regs) := fun z hz => by
          rw [take_snoc HR.out] at hz
          rcases List.mem_append.1 hz with hz | hz
          · exact HALL.out z hz
          · rw [List.mem_singleton.1 hz]; omega
        go_wp2_with fail
        go_quiet (fail)
        go_wp2_with fail
        exact ⟨⟨j + 1, by omega, by go_num, HNX.out, below_step HBJ.out ⟨rfl, rfl, rfl, Nat.le_refl _, fun _ _ => rfl⟩⟩, by simp [intOf]; omega⟩
      · obtain rfl : ln = j := by omega
        have HA : Hid (∀ r ∈ L, 0 ≤ r ∧ r < f.regs) := by have := HALL.out; rwa [← HLN.out, List.take_length] at this
        go_wp2_with fail
        go_ret
        exact ⟨true, rfl, ⟨fun _ => ⟨fun r hr => HA.out r ((HL.out r).2 (.inl hr)), fun d hd => HA.out d ((HL.out d).2 (.inr hd))⟩, fun _ => rfl⟩, HBF.out⟩
theorem form_any (f : Fn) (aa ba : Option Addr) (ac bc : Nat) (w : World) (hf : FnAt w f aa ba) (hbl : f.blocks.length ≤ 1000) (hcl : ∀ b ∈ f.blocks, b.code.length ≤ 1000000) :
    Calls Tryd.prog 14 #[fnVal f.name f.regs aa f.arrays.length ac ba f.blocks.length bc] w (Tells (FormF f) w) := by
  have HF := Lib.hid hf
  have HCL := Lib.hid hcl
  obtain ⟨n, hn⟩ : ∃ n, f.blocks.length = n := ⟨_, rfl⟩
  have HN := Lib.hid hn
  obtain ⟨W, hW⟩ : ∃ W : World, w.alloc (.cells #[.string f.name, .int .i64 f.regs, .slice aa f.arrays.length ac, .slice ba n bc] 36) = W := ⟨_, rfl⟩
  have hWs : W.heap.size = w.heap.size + 1 := by rw [← hW]; simp
  have HBW : Hid (Below w.heap.size w W) := by show Below _ _ _; rw [← hW]; exact (Below.refl _ _).alloc (Nat.le_refl _) _
  have HX : Hid (W.heap[w.heap.size]? = some (.cells #[.string f.name, .int .i64 f.regs, .slice aa f.arrays.length ac, .slice ba n bc] 36)) := by
    show _ = _
    rw [← hW]
    exact (MapKept.heap_alloc w _).1
  have HXC : Hid (∀ w', Below W.heap.size W w' → w'.cell? ⟨w.heap.size, 0, none⟩ = some (.string f.name) ∧ w'.cell? ⟨w.heap.size, 1, none⟩ = some (.int .i64 f.regs) ∧ w'.cell? ⟨w.heap.size, 2, none⟩ = some (.slice aa f.arrays.length ac) ∧ w'.cell? ⟨w.heap.size, 3, none⟩ = some (.slice ba n bc)) := fun w' h => by
    have h9 := (h.block _ (show w.heap.size < W.heap.size by omega)).trans HX.out
    exact ⟨cell_heap h9 0, cell_heap h9 1, cell_heap h9 2, cell_heap h9 3⟩
  obtain ⟨x0, x1, x2, x3⟩ := HXC.out W (Below.refl _ _)
  rw [hn] at hbl ⊢
  clear hf hcl hn hWs
  by_cases h0 : n = 0
  · subst h0
    have hno : ¬ FormF f := fun h => by have := h.one; have := HN.out; omega
    have HNO := Lib.hid hno
    clear hno
    go_enter Tryd.func14, Tryd.ntmps14
    go_wp2_with fail
    go_ret
    exact ⟨false, rfl, ⟨fun h => by simp at h, fun h => absurd h HNO.out⟩, HBW.out⟩
  have hnz : ((n : Int) == 0) = false := by simp; omega
  by_cases h1 : f.regs < 0
  · have hno : ¬ FormF f := fun h => by have := h.r0; omega
    have HNO := Lib.hid hno
    clear hno
    go_enter Tryd.func14, Tryd.ntmps14
    go_wp2_with fail
    go_ret
    exact ⟨false, rfl, ⟨fun h => by simp at h, fun h => absurd h HNO.out⟩, HBW.out⟩
  have h1d : decide (f.regs < 0) = false := by simpa using h1
  by_cases h2 : 10000 < f.regs
  · have hno : ¬ FormF f := fun h => by have := h.r1; omega
    have HNO := Lib.hid hno
    clear hno
    go_enter Tryd.func14, Tryd.ntmps14
    go_wp2_with fail
    go_ret
    exact ⟨false, rfl, ⟨fun h => by simp at h, fun h => absurd h HNO.out⟩, HBW.out⟩
  have h2d : decide (10000 < f.regs) = false := by simpa using h2
  have H12 : Hid (0 ≤ f.regs ∧ f.regs ≤ 10000 ∧ 0 < n) := by show _ ∧ _; omega
  go_enter Tryd.func14, Tryd.ntmps14
  go_wp2_with fail
  clear x0 x1 x2 x3 hW h1 h1d h2 h2d hnz
  go_loopw [3] (fun i wr => ∃ j : Nat, j ≤ n ∧ i = .int .i64 (j : Int) ∧ (∀ b ∈ f.blocks.take j, BlkF f.regs n b) ∧ Below W.heap.size W wr) (fun i _ => n - (intOf i).toNat)
  case atStart => exact ⟨0, Nat.zero_le _, rfl, by simp, Below.refl _ _⟩
  case round =>
    obtain ⟨j, hj, rfl, hall, hbel⟩ := hrel
    have HALL := Lib.hid hall
    have HBEL := Lib.hid hbel
    have hj0 : (0 : Int) ≤ (j : Int) := by omega
    obtain ⟨x0, x1, x2, x3⟩ := HXC.out wr hbel
    clear hall hbel
    by_cases hlt : j < n
    · skip
      have hlt2 : (j : Int) < (n : Int) := by omega
      obtain ⟨b, hb⟩ : ∃ b, f.blocks[j]? = some b := ⟨_, List.getElem?_eq_getElem (by rw [HN.out]; exact hlt)⟩
      have HB := Lib.hid hb
      rcases HF.out.blocks.at_ with hz | ⟨bb, off, rfl, hk⟩
      · have := HN.out; omega
      obtain ⟨ca, cc, hba, hcode⟩ := hk j b hb
      obtain ⟨c0, c1, c2, c3, c4⟩ := hba.below (HBW.out.trans (HBEL.out.mono HBW.out.size))
      have HCODE := Lib.hid hcode
      obtain ⟨V1, hV1⟩ : ∃ V1 : World, wr.alloc (.cells #[.slice ca b.code.length cc, .int .u8 b.kind, .int .i64 b.x, .int .i64 b.to, .int .i64 b.els] 90) = V1 := ⟨_, rfl⟩
      have HBV1 : Hid (Below wr.heap.size wr V1) := by show Below _ _ _; rw [← hV1]; exact (Below.refl _ _).alloc (Nat.le_refl _) _
      have HZ1 : Hid (V1.heap[wr.heap.size]? = some (.cells #[.slice ca b.code.length cc, .int .u8 b.kind, .int .i64 b.x, .int .i64 b.to, .int .i64 b.els] 90)) := by
        show _ = _
        rw [← hV1]
        exact (MapKept.heap_alloc wr _).1
      have HBW1 : Hid (Below W.heap.size W V1) := below_step HBEL.out HBV1.out
      have hcl1 := HCL.out b (List.mem_of_getElem? hb)
      clear hk hba hcode hb
      go_wp2_with fail
      clear hV1 c0 c1 c2 c3 c4 x0 x1 x2 x3
      obtain ⟨wo, rfl⟩ : ∃ wo : World, wo = wr := ⟨_, rfl⟩
      go_loopw [5] (fun i wi => ∃ k : Nat, k ≤ b.code.length ∧ i = .int .i64 (k : Int) ∧ (∀ q ∈ b.code.take k, InsF f.regs q) ∧ Below V1.heap.size V1 wi) (fun i _ => b.code.length - (intOf i).toNat)
      case atStart => exact ⟨0, Nat.zero_le _, rfl, by simp, Below.refl _ _⟩
      case round =>
        obtain ⟨k, hk, rfl, hins, hbi⟩ := hrel
        have HINS := Lib.hid hins
        have HBI := Lib.hid hbi
        have hk0 : (0 : Int) ≤ (k : Int) := by omega
        have HBWI : Hid (Below W.heap.size W wr) := below_step HBW1.out hbi
        have HZI : Hid (wr.heap[wo.heap.size]? = some (.cells #[.slice ca b.code.length cc, .int .u8 b.kind, .int .i64 b.x, .int .i64 b.to, .int .i64 b.els] 90)) := (hbi.block _ (lt_heap HZ1.out)).trans HZ1.out
        clear hins hbi
        by_cases hkl : k < b.code.length
        · skip
          obtain ⟨q, hq⟩ : ∃ q, b.code[k]? = some q := ⟨_, List.getElem?_eq_getElem hkl⟩
          have HQ := Lib.hid hq
          have hkl2 : (k : Int) < (b.code.length : Int) := by omega
          rcases HCODE.out.at_ with hz | ⟨cb, co, rfl, hcc⟩
          · omega
          obtain ⟨c0, c1, c2, c3, c4, c5⟩ := (hcc k q hq).below (HBW.out.trans (HBWI.out.mono HBW.out.size))
          have hqwf := HCODE.out.wf q (List.mem_of_getElem? hq)
          have HQWF := Lib.hid hqwf
          obtain ⟨d0, d1, d2, d3, d4⟩ := five_cells HZI.out
          obtain ⟨x0, x1, x2, x3⟩ := HXC.out wr HBWI.out
          have HNOT : Hid (¬ InsF f.regs q → ¬ FormF f) := fun h hF => h ((hF.blk b (List.mem_of_getElem? HB.out)).ins q (List.mem_of_getElem? HQ.out))
          have HWB : Hid (∀ w', Below wr.heap.size wr w' → Below w.heap.size w w') := fun w' h => HBW.out.trans ((below_step HBWI.out h).mono HBW.out.size)
          clear hcc hq hqwf
          by_cases ho1 : q.op < 1
          · have HNO : Hid (¬ FormF f) := HNOT.out (fun h => by have := h.op0; omega)
            go_wp2_with fail
            go_quiet (fail)
            go_wp2_with fail
            go_ret
            exact ⟨false, rfl, ⟨fun h => by simp at h, fun h => absurd h HNO.out⟩, HWB.out _ ⟨rfl, rfl, rfl, Nat.le_refl _, fun _ _ => rfl⟩⟩
          have ho1d : decide (q.op < 1) = false := by simpa using ho1
          by_cases ho2 : 16 < q.op
          · have HNO : Hid (¬ FormF f) := HNOT.out (fun h => by have := h.op1; omega)
            go_wp2_with fail
            go_quiet (fail)
            go_wp2_with fail
            go_ret
            exact ⟨false, rfl, ⟨fun h => by simp at h, fun h => absurd h HNO.out⟩, HWB.out _ ⟨rfl, rfl, rfl, Nat.le_refl _, fun _ _ => rfl⟩⟩
          have ho2d : decide (16 < q.op) = false := by simpa using ho2
          have HOP : Hid (1 ≤ q.op ∧ q.op ≤ 16) := by show _ ∧ _; omega
          go_wp2_with fail
          go_still_tail 23, (by kernel_rfl)
          change wpList _ _ _ _ _ wr.drew
          go_wp2_with fail
          clear c0 c1 c2 c3 c4 c5 d0 d1 d2 d3 d4 x0 x1 x2 x3 ho1 ho1d ho2 ho2d
          refine (registers_any f aa (some ⟨bb, off, none⟩) f.arrays.length ac n bc q _ HQWF.out.op0 HQWF.out.op1).mono ?_
          rintro e w4 ⟨r, rfl, hr, hB4⟩
          have HB4 : Hid (Below wr.heap.size wr w4) := (show Below wr.heap.size wr wr.drew from ⟨rfl, rfl, rfl, Nat.le_refl _, fun _ _ => rfl⟩).trans hB4
          have HR := Lib.hid hr
          clear hB4 hr
          cases r with
          | false =>
            have HNO : Hid (¬ FormF f) := HNOT.out (fun h => by
              have := HR.out.2 ⟨h.use, h.dfn⟩
              simp at this)
            go_wp2_with fail
            go_ret
            exact ⟨false, rfl, ⟨fun h => by simp at h, fun h => absurd h HNO.out⟩, HWB.out _ HB4.out⟩
          | true =>
            have HI : Hid (InsF f.regs q) := ⟨HOP.out.1, HOP.out.2, (HR.out.1 rfl).1, (HR.out.1 rfl).2⟩
            have HNX : Hid (∀ z ∈ b.code.take (k + 1), InsF f.regs z) := fun z hz => by
              rw [take_snoc HQ.out] at hz
              rcases List.mem_append.1 hz with hz | hz
              · exact HINS.out z hz
              · rw [List.mem_singleton.1 hz]; exact HI.out
            go_wp2_with fail
            exact ⟨⟨k + 1, by omega, by go_num, HNX.out, below_step HBI.out HB4.out⟩, by simp [intOf]; omega⟩
        · obtain rfl : k = b.code.length := by omega
          have HIA : Hid (∀ q ∈ b.code, InsF f.regs q) := by have := HINS.out; rwa [List.take_length] at this
          have HNOB : Hid (¬ BlkF f.regs n b → ¬ FormF f) := fun h hF => h (by have := hF.blk b (List.mem_of_getElem? HB.out); rwa [HN.out] at this)
          have HWB : Hid (∀ w', Below wr.heap.size wr w' → Below w.heap.size w w') := fun w' h => HBW.out.trans ((below_step HBWI.out h).mono HBW.out.size)
          obtain ⟨d0, d1, d2, d3, d4⟩ := five_cells HZI.out
          obtain ⟨x0, x1, x2, x3⟩ := HXC.out wr HBWI.out
          by_cases hk1 : b.kind < 1
          · have HNO : Hid (¬ FormF f) := HNOB.out (fun h => by have := h.k0; omega)
            go_wp2_with fail
            go_ret
            exact ⟨false, rfl, ⟨fun h => by simp at h, fun h => absurd h HNO.out⟩, HWB.out _ (Below.refl _ _)⟩
          have hk1d : decide (b.kind < 1) = false := by simpa using hk1
          by_cases hk2 : 3 < b.kind
          · have HNO : Hid (¬ FormF f) := HNOB.out (fun h => by have := h.k1; omega)
            go_wp2_with fail
            go_ret
            exact ⟨false, rfl, ⟨fun h => by simp at h, fun h => absurd h HNO.out⟩, HWB.out _ (Below.refl _ _)⟩
          have hk2d : decide (3 < b.kind) = false := by simpa using hk2
          by_cases hk3 : b.kind = 2
          · have hk3d : (b.kind == 2) = true := by simpa using hk3
            by_cases hx0 : b.x < 0
            · have HNO : Hid (¬ FormF f) := HNOB.out (fun h => by have := h.fin hk3; omega)
              go_wp2_with fail
              go_ret
              exact ⟨false, rfl, ⟨fun h => by simp at h, fun h => absurd h HNO.out⟩, HWB.out _ (Below.refl _ _)⟩
            have hx0d : decide (b.x < 0) = false := by simpa using hx0
            by_cases hx1 : f.regs ≤ b.x
            · have HNO : Hid (¬ FormF f) := HNOB.out (fun h => by have := h.fin hk3; omega)
              go_wp2_with fail
              go_ret
              exact ⟨false, rfl, ⟨fun h => by simp at h, fun h => absurd h HNO.out⟩, HWB.out _ (Below.refl _ _)⟩
            have hx1d : decide (f.regs ≤ b.x) = false := by simpa using hx1
            have HKI : Hid (1 ≤ b.kind ∧ b.kind ≤ 3 ∧ (b.kind = 2 → 0 ≤ b.x ∧ b.x < f.regs)) := ⟨by omega, by omega, fun _ => by omega⟩
            clear hk3
            go_wp2_with fail
            clear d0 d1 d2 d3 d4 x0 x1 x2 x3
            refine (refSucc_any b ca cc _).mono ?_
            rintro e w3 ⟨uv, rfl, hU, hB3⟩
            obtain ⟨ua, uc, rfl⟩ : ∃ ua uc, uv = .slice ua b.succ.length uc := by
              rcases hU with ⟨h1, h2⟩ | ⟨b', off', cap, h2, _⟩
              · exact ⟨none, 0, by rw [h2, h1]; rfl⟩
              · exact ⟨_, _, h2⟩
            have HU := Lib.hid hU
            have HB3 := Lib.hid hB3
            have hul := succ_two b
            obtain ⟨un, hun⟩ : ∃ m, b.succ.length = m := ⟨_, rfl⟩
            have HUN := Lib.hid hun
            rw [hun] at hul HU ⊢
            clear hU hB3 hun
            go_wp2_with fail
            obtain ⟨wp, rfl⟩ : ∃ wp : World, wp = wr := ⟨_, rfl⟩
            go_loopw [7] (fun i wi => ∃ m : Nat, m ≤ un ∧ i = .int .i64 (m : Int) ∧ (∀ r ∈ b.succ.take m, 0 ≤ r ∧ r < (n : Int)) ∧ Below w3.heap.size w3 wi) (fun i _ => un - (intOf i).toNat)
            case atStart => exact ⟨0, Nat.zero_le _, rfl, by simp, Below.refl _ _⟩
            case round =>
              obtain ⟨m, hm, rfl, huse, hbm⟩ := hrel
              have HUSE := Lib.hid huse
              have HBM := Lib.hid hbm
              have HBM2 : Hid (Below wp.heap.size wp wr) := below_step HB3.out hbm
              have hm0 : (0 : Int) ≤ (m : Int) := by omega
              obtain ⟨x0, x1, x2, x3⟩ := HXC.out wr (below_step HBWI.out HBM2.out)
              clear huse hbm
              by_cases hml : m < un
              · have hml2 : (m : Int) < (un : Int) := by omega
                have hmu : m < b.succ.length := by have := HUN.out; omega
                obtain ⟨r, hr⟩ : ∃ r, b.succ[m]? = some r := ⟨_, List.getElem?_eq_getElem hmu⟩
                have HR := Lib.hid hr
                rcases HU.out with ⟨h1, _⟩ | ⟨ub, uo, cap, hv3, hb1, _, hb2, hc⟩
                · have := HUN.out; rw [h1] at this; simp at this; omega
                obtain ⟨rfl⟩ : ua = some ⟨ub, uo, none⟩ := by injection hv3
                have hcell : wr.cell? ⟨ub, uo + m, none⟩ = some (.int .i64 r) := by
                  rw [World.cell?_of_block (a := ⟨ub, uo + m, none⟩) (HBM.out.block ub hb2), hc m hmu, List.getD_eq_getElem?_getD, hr]
                  rfl
                clear hv3 hb1 hb2 hc hr
                by_cases hr0 : r < 0
                · have HNO : Hid (¬ FormF f) := HNOB.out (fun h => by have := h.succ r (List.mem_of_getElem? HR.out); omega)
                  go_wp2_with fail
                  go_quiet (fail)
                  go_wp2_with fail
                  go_ret
                  exact ⟨false, rfl, ⟨fun h => by simp at h, fun h => absurd h HNO.out⟩, HWB.out _ (below_step HBM2.out ⟨rfl, rfl, rfl, Nat.le_refl _, fun _ _ => rfl⟩)⟩
                have hr0d : decide (r < 0) = false := by simpa using hr0
                by_cases hr1 : r < (n : Int)
                · have hr1d : decide ((n : Int) ≤ r) = false := by simp; omega
                  have HNX : Hid (∀ z ∈ b.succ.take (m + 1), 0 ≤ z ∧ z < (n : Int)) := fun z hz => by
                    rw [take_snoc HR.out] at hz
                    rcases List.mem_append.1 hz with hz | hz
                    · exact HUSE.out z hz
                    · rw [List.mem_singleton.1 hz]; omega
                  go_wp2_with fail
                  go_quiet (fail)
                  go_wp2_with fail
                  exact ⟨⟨m + 1, by omega, by go_num, HNX.out, below_step HBM.out ⟨rfl, rfl, rfl, Nat.le_refl _, fun _ _ => rfl⟩⟩, by simp [intOf]; omega⟩
                · have hr1d : (n : Int) ≤ r := by omega
                  have HNO : Hid (¬ FormF f) := HNOB.out (fun h => by have := h.succ r (List.mem_of_getElem? HR.out); omega)
                  go_wp2_with fail
                  go_quiet (fail)
                  go_wp2_with fail
                  go_ret
                  exact ⟨false, rfl, ⟨fun h => by simp at h, fun h => absurd h HNO.out⟩, HWB.out _ (below_step HBM2.out ⟨rfl, rfl, rfl, Nat.le_refl _, fun _ _ => rfl⟩)⟩
              · obtain rfl : un = m := by omega
                have HUA : Hid (∀ r ∈ b.succ, 0 ≤ r ∧ r < (n : Int)) := by have := HUSE.out; rwa [← HUN.out, List.take_length] at this
                have HI : Hid (BlkF f.regs n b) := ⟨HIA.out, HKI.out.1, HKI.out.2.1, HUA.out, HKI.out.2.2⟩
                go_wp2_with fail
                go_roundw
                case rel =>
                  refine ⟨j + 1, by omega, by go_num, fun z hz => ?_, below_step HBWI.out HBM2.out⟩
                  rw [take_snoc HB.out] at hz
                  rcases List.mem_append.1 hz with hz | hz
                  · exact HALL.out z hz
                  · rw [List.mem_singleton.1 hz]; exact HI.out
                case measure => simp [intOf]; omega
          · have hk3d : (b.kind == 2) = false := by simpa using hk3
            have HKI : Hid (1 ≤ b.kind ∧ b.kind ≤ 3 ∧ (b.kind = 2 → 0 ≤ b.x ∧ b.x < f.regs)) := ⟨by omega, by omega, fun h => absurd h hk3⟩
            clear hk3
            go_wp2_with fail
            clear d0 d1 d2 d3 d4 x0 x1 x2 x3
            refine (refSucc_any b ca cc _).mono ?_
            rintro e w3 ⟨uv, rfl, hU, hB3⟩
            obtain ⟨ua, uc, rfl⟩ : ∃ ua uc, uv = .slice ua b.succ.length uc := by
              rcases hU with ⟨h1, h2⟩ | ⟨b', off', cap, h2, _⟩
              · exact ⟨none, 0, by rw [h2, h1]; rfl⟩
              · exact ⟨_, _, h2⟩
            have HU := Lib.hid hU
            have HB3 := Lib.hid hB3
            have hul := succ_two b
            obtain ⟨un, hun⟩ : ∃ m, b.succ.length = m := ⟨_, rfl⟩
            have HUN := Lib.hid hun
            rw [hun] at hul HU ⊢
            clear hU hB3 hun
            go_wp2_with fail
            obtain ⟨wp, rfl⟩ : ∃ wp : World, wp = wr := ⟨_, rfl⟩
            go_loopw [7] (fun i wi => ∃ m : Nat, m ≤ un ∧ i = .int .i64 (m : Int) ∧ (∀ r ∈ b.succ.take m, 0 ≤ r ∧ r < (n : Int)) ∧ Below w3.heap.size w3 wi) (fun i _ => un - (intOf i).toNat)
            case atStart => exact ⟨0, Nat.zero_le _, rfl, by simp, Below.refl _ _⟩
            case round =>
              obtain ⟨m, hm, rfl, huse, hbm⟩ := hrel
              have HUSE := Lib.hid huse
              have HBM := Lib.hid hbm
              have HBM2 : Hid (Below wp.heap.size wp wr) := below_step HB3.out hbm
              have hm0 : (0 : Int) ≤ (m : Int) := by omega
              obtain ⟨x0, x1, x2, x3⟩ := HXC.out wr (below_step HBWI.out HBM2.out)
              clear huse hbm
              by_cases hml : m < un
              · have hml2 : (m : Int) < (un : Int) := by omega
                have hmu : m < b.succ.length := by have := HUN.out; omega
                obtain ⟨r, hr⟩ : ∃ r, b.succ[m]? = some r := ⟨_, List.getElem?_eq_getElem hmu⟩
                have HR := Lib.hid hr
                rcases HU.out with ⟨h1, _⟩ | ⟨ub, uo, cap, hv3, hb1, _, hb2, hc⟩
                · have := HUN.out; rw [h1] at this; simp at this; omega
                obtain ⟨rfl⟩ : ua = some ⟨ub, uo, none⟩ := by injection hv3
                have hcell : wr.cell? ⟨ub, uo + m, none⟩ = some (.int .i64 r) := by
                  rw [World.cell?_of_block (a := ⟨ub, uo + m, none⟩) (HBM.out.block ub hb2), hc m hmu, List.getD_eq_getElem?_getD, hr]
                  rfl
                clear hv3 hb1 hb2 hc hr
                by_cases hr0 : r < 0
                · have HNO : Hid (¬ FormF f) := HNOB.out (fun h => by have := h.succ r (List.mem_of_getElem? HR.out); omega)
                  go_wp2_with fail
                  go_quiet (fail)
                  go_wp2_with fail
                  go_ret
                  exact ⟨false, rfl, ⟨fun h => by simp at h, fun h => absurd h HNO.out⟩, HWB.out _ (below_step HBM2.out ⟨rfl, rfl, rfl, Nat.le_refl _, fun _ _ => rfl⟩)⟩
                have hr0d : decide (r < 0) = false := by simpa using hr0
                by_cases hr1 : r < (n : Int)
                · have hr1d : decide ((n : Int) ≤ r) = false := by simp; omega
                  have HNX : Hid (∀ z ∈ b.succ.take (m + 1), 0 ≤ z ∧ z < (n : Int)) := fun z hz => by
                    rw [take_snoc HR.out] at hz
                    rcases List.mem_append.1 hz with hz | hz
                    · exact HUSE.out z hz
                    · rw [List.mem_singleton.1 hz]; omega
                  go_wp2_with fail
                  go_quiet (fail)
                  go_wp2_with fail
                  exact ⟨⟨m + 1, by omega, by go_num, HNX.out, below_step HBM.out ⟨rfl, rfl, rfl, Nat.le_refl _, fun _ _ => rfl⟩⟩, by simp [intOf]; omega⟩
                · have hr1d : (n : Int) ≤ r := by omega
                  have HNO : Hid (¬ FormF f) := HNOB.out (fun h => by have := h.succ r (List.mem_of_getElem? HR.out); omega)
                  go_wp2_with fail
                  go_quiet (fail)
                  go_wp2_with fail
                  go_ret
                  exact ⟨false, rfl, ⟨fun h => by simp at h, fun h => absurd h HNO.out⟩, HWB.out _ (below_step HBM2.out ⟨rfl, rfl, rfl, Nat.le_refl _, fun _ _ => rfl⟩)⟩
              · obtain rfl : un = m := by omega
                have HUA : Hid (∀ r ∈ b.succ, 0 ≤ r ∧ r < (n : Int)) := by have := HUSE.out; rwa [← HUN.out, List.take_length] at this
                have HI : Hid (BlkF f.regs n b) := ⟨HIA.out, HKI.out.1, HKI.out.2.1, HUA.out, HKI.out.2.2⟩
                go_wp2_with fail
                go_roundw
                case rel =>
                  refine ⟨j + 1, by omega, by go_num, fun z hz => ?_, below_step HBWI.out HBM2.out⟩
                  rw [take_snoc HB.out] at hz
                  rcases List.mem_append.1 hz with hz | hz
                  · exact HALL.out z hz
                  · rw [List.mem_singleton.1 hz]; exact HI.out
                case measure => simp [intOf]; omega
    · obtain rfl : j = n := by omega
      go_wp2_with fail
      go_ret
      exact ⟨true, rfl, ⟨fun _ => ⟨by rw [HN.out]; exact H12.out.2.2, H12.out.1, H12.out.2.1, fun b hb => by have := HALL.out b (by rw [← HN.out, List.take_length]; exact hb); rw [HN.out]; exact this⟩, fun _ => rfl⟩, HBW.out.trans (HBEL.out.mono HBW.out.size)⟩
end Go.Proofs.YteknhnnlhhgppaaDoor
