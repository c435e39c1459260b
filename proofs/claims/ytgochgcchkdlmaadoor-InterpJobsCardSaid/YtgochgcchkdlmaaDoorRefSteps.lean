/-
  RefSteps: several texts in one (Ref16U, Ref16V, Ref16W).
-/
import Derived.Test.YtgochgcchkdlmaaDoorPuts
import Derived.Test.YtgochgcchkdlmaaDoorRefCells
import Derived.Deep.RegionHeld
import Derived.Deep.RegionHeld3
import Derived.Test.YtgochgcchkdlmaaDoorInStates
import Derived.Test.YtgochgcchkdlmaaDoorInCopies
/-
  Contract: store (package ontimeref16).
-/
namespace Go.Proofs.YtgochgcchkdlmaaDoor
set_option linter.unusedVariables false
set_option linter.unusedSimpArgs false
open Go.RowKit Go.Maps
set_option maxRecDepth 100000
set_option maxHeartbeats 80000000

/-- a block of the state's turns -/
theorem CelsOwn.off {B : Nat} {w w' : World} {ca : Option Addr} {cs : List Cel} {y : Nat → Value} {q : Nat} {arr : Array Value} (h : CelsOwn B w ca cs y) (hq : w.heap[q]? = some (.cells arr 45)) (hf : ∀ b, b ≠ q → w'.heap[b]? = w.heap[b]?) : CelsOwn B w' ca cs y := by
  have hcell : ∀ (b : Nat) (a : Array Value), w.heap[b]? = some (.cells a 54) → b ≠ q := fun b a hb e => by
    rw [e, hq] at hb
    injection hb with hb
    injection hb with _ hb _
    exact absurd hb (by decide)
  refine ⟨h.len, fun k c hk => ?_, fun b off e => ?_, fun k c hk => ?_, h.fit, h.apart⟩
  · obtain ⟨b, off, h1, h2, h3, h4⟩ := h.row k c hk
    have hkl := (List.getElem?_eq_some_iff.1 hk).1
    have hb : b ≠ q := by
      rcases h.ty b off h1 with h9 | ⟨a, h9⟩
      · omega
      · exact hcell b a h9
    have hc : ∀ o, w'.cell? ⟨b, o, none⟩ = w.cell? ⟨b, o, none⟩ := fun o => World.cell?_of_block (hf b hb)
    exact ⟨b, off, h1, (hc _).trans h2, (hc _).trans h3, (hc _).trans h4⟩
  · rcases h.ty b off e with h0 | ⟨a, h1⟩
    · exact .inl h0
    · exact .inr ⟨a, (hf b (hcell b a h1)).trans h1⟩
  · exact own_keep (h.own k c hk) (fun b hb _ => hf b (fun e => own_other (h.own k c hk) hq (by decide) (by rw [hb, e])))
theorem store16_any {B : Nat} (p : Tree) (pa : Option Addr) (pc : Nat) (i x : Int) (hi : Wd.W i) (hx : Wd.W x) (cs : List Cel) (y : Nat → Value) (ca : Option Addr) (cc : Nat) (ia : Option Addr) (il ic : Nat) (oa : Option Addr) (on oc : Nat) (rd st F er : Int) (w : World)
    (h : CelsOwn B w ca cs y) (hB : B ≤ w.heap.size) (ar : Bool) (har : (p.kind == 3) = ar) (hhit : ∃ (k : Nat) (c : Cel), cs[k]? = some c ∧ c.hit p.name ar) :
    Calls Tryd.prog 93 #[p.val pa pc, .int .i32 i, .int .i32 x, envVal ca cs.length cc ia il ic oa on oc rd st F er] w fun e w' => ∃ (k : Nat) (c : Cel), cs[k]? = some c ∧ c.hit p.name ar ∧ (∀ (k' : Nat) (d : Cel), k < k' → cs[k']? = some d → ¬ d.hit p.name ar) ∧
      ((0 ≤ i ∧ i < (c.l.length : Int) ∧ e = .returned (envVal ca cs.length cc ia il ic oa on oc rd st F er) ∧ CelsOwn B w' ca (cs.set k (c.put i.toNat x)) y) ∨
       (¬ (0 ≤ i ∧ i < (c.l.length : Int)) ∧ e = .returned (envVal ca cs.length cc ia il ic oa on oc rd st F 11) ∧ CelsOwn B w' ca cs y)) ∧ FrC B cs.length y w w' := by
  obtain ⟨W1, hW1⟩ : ∃ W : World, w.alloc (ndObj p pa pc) = W := ⟨_, rfl⟩
  obtain ⟨W2, hW2⟩ : ∃ W : World, W1.alloc (envObj ca cs.length cc ia il ic oa on oc rd st F er) = W := ⟨_, rfl⟩
  obtain ⟨W3, hW3⟩ : ∃ W : World, W2.alloc (envObj none 0 0 none 0 0 none 0 0 0 0 0 0) = W := ⟨_, rfl⟩
  have b1 : Below w.heap.size w W1 := by rw [← hW1]; exact mem_alloc _ _
  have b2 : Below W1.heap.size W1 W2 := by rw [← hW2]; exact mem_alloc _ _
  have b3 : Below W2.heap.size W2 W3 := by rw [← hW3]; exact mem_alloc _ _
  have hX1 : W3.heap[w.heap.size]? = some (ndObj p pa pc) := mem_keep (by rw [← hW1]; exact mem_new _ _) (mem_then b2 b3)
  have hX2 : W3.heap[W1.heap.size]? = some (envObj ca cs.length cc ia il ic oa on oc rd st F er) := mem_keep (by rw [← hW2]; exact mem_new _ _) b3
  have hX3 : W3.heap[W2.heap.size]? = some (envObj none 0 0 none 0 0 none 0 0 0 0 0 0) := by rw [← hW3]; exact mem_new _ _
  have hB3 := mem_then b1 (mem_then b2 b3)
  have HL : Hid (w.heap.size < W1.heap.size ∧ W1.heap.size < W2.heap.size ∧ W2.heap.size < W3.heap.size) := by
    refine ⟨?_, ?_, ?_⟩
    · rw [← hW1]; simp
    · rw [← hW2]; simp
    · rw [← hW3]; simp
  have HK : Hid (∀ w', Below W3.heap.size W3 w' → w'.heap[w.heap.size]? = some (ndObj p pa pc) ∧ w'.heap[W1.heap.size]? = some (envObj ca cs.length cc ia il ic oa on oc rd st F er) ∧ w'.heap[W2.heap.size]? = some (envObj none 0 0 none 0 0 none 0 0 0 0 0 0) ∧ CelsOwn B w' ca cs y ∧ Below w.heap.size w w') := fun w' hw =>
    ⟨mem_keep hX1 hw, mem_keep hX2 hw, mem_keep hX3 hw, h.below (mem_then hB3 hw), mem_then hB3 hw⟩
  have HH := Lib.hid h
  have HBB : Hid (B ≤ w.heap.size) := hB
  have HHIT := Lib.hid hhit
  have HI : Hid (Wd.W i) := hi
  have HX : Hid (Wd.W x) := hx
  have HF := Lib.hid (find16_any cs p.name ar W3 ca cc (HK.out W3 (Below.refl _ _)).2.2.2.1.at_)
  obtain ⟨x0, x1, x2, x3⟩ := nd_cells hX1
  obtain ⟨e0, e1, e2, e3, e4, e5, e6⟩ := env_cells hX2
  clear h hB hhit hi hx b1 b2 b3 hX1 hX2 hX3 hB3
  go_enter Tryd.func93, Tryd.ntmps93
  go_wp2_with fail
  clear x0 x1 x2 x3 e0 e1 e2 e3 e4 e5 e6 hW1 hW2 hW3
  refine HF.out.mono ?_
  rintro e E ⟨r, rfl, hr, hBE⟩
  rcases hr with ⟨_, hn⟩ | ⟨k, c, rfl, hk, hh, hn⟩
  · obtain ⟨k, c, hk, hh⟩ := HHIT.out
    exact absurd hh (hn k c hk)
  have HBE := Lib.hid hBE
  have HN := Lib.hid hn
  have HHC := Lib.hid hh
  have HKC := Lib.hid hk
  have hkl := (List.getElem?_eq_some_iff.1 hk).1
  have hkl2 : (k : Int) < (cs.length : Int) := by omega
  have hk0 : (0 : Int) ≤ (k : Int) := by omega
  obtain ⟨hx1, hx2, hx3, hco, hbw⟩ := HK.out E hBE
  obtain ⟨b, off, rfl, c0, c1, c2⟩ := hco.row k c hk
  have ho := hco.own k c hk
  obtain ⟨hc1, hc2, hc3, hc4⟩ := hco.fit k c hk
  obtain ⟨ya, yc, hy⟩ := own_val ho
  rw [hy] at c2 ho
  have HY := Lib.hid hy
  have HCO := Lib.hid hco
  have HBW := Lib.hid hbw
  obtain ⟨e0, e1, e2, e3, e4, e5, e6⟩ := env_cells hx2
  have f6 := mem_free hx2 6
  have hbl := World.block_lt_of_cell? _ _ c0
  have HX2 := Lib.hid hx2
  have HX3 := Lib.hid hx3
  clear HF hBE hn hh hk hx1 hx2 hx3 hco hbw hc2 hc3 hc4 hy HK HHIT
  have hxi : -2147483648 ≤ i ∧ i ≤ 2147483647 := HI.out
  by_cases hin : 0 ≤ i ∧ i < (c.l.length : Int)
  · obtain ⟨m, hm⟩ : ∃ m : Nat, i = (m : Int) := ⟨i.toNat, by omega⟩
    subst hm
    have hml : m < c.l.length := by omega
    have hml2 : (m : Int) < (c.l.length : Int) := by omega
    have hm0 : (0 : Int) ≤ (m : Int) := by omega
    obtain ⟨g, rfl, hgB, hgl⟩ := own_at ho (by omega)
    obtain ⟨z, hz⟩ : ∃ z, (i32s c.l)[m]? = some z := ⟨_, List.getElem?_eq_getElem (by rw [i32s_len]; exact hml)⟩
    have d0 := own_get ho hz
    obtain ⟨_, cur, hcur⟩ := row16_obj ho
    have d1 := mem_free hcur m
    have g1 : decide ((m : Int) < 0) = false := decide_eq_false (by omega)
    have g2 : decide ((c.l.length : Int) ≤ (m : Int)) = false := decide_eq_false (by omega)
    have HGW : Hid (g < w.heap.size) := (own_lt (HH.out.own k c HKC.out) (show (y k).ownBlock = some g by rw [HY.out]; rfl)).2
    obtain ⟨V, hV⟩ : ∃ V : World, E.setCell ⟨g, m, none⟩ (.int .i32 x) = V := ⟨_, rfl⟩
    have hpt := HCO.out.put HKC.out HY.out hml HX.out
    rw [hV] at hpt
    have HCV := Lib.hid hpt.1
    have HFV : Hid (FrC B cs.length y w V) := (FrC.of HBW.out HBB.out).trans hpt.2
    have HXV : Hid (V.heap[W1.heap.size]? = some (envObj (some ⟨b, off, none⟩) cs.length cc ia il ic oa on oc rd st F er)) := by show _ = _; rw [← hV, Below.heap_setCell _ _ _ _ (by show W1.heap.size ≠ g; have := HGW.out; have := HL.out; omega)]; exact HX2
    have HXR : Hid (V.heap[W2.heap.size]? = some (envObj none 0 0 none 0 0 none 0 0 0 0 0 0)) := by show _ = _; rw [← hV, Below.heap_setCell _ _ _ _ (by show W2.heap.size ≠ g; have := HGW.out; have := HL.out; omega)]; exact HX3
    clear hz hcur hpt ho
    go_upto_region 6 with fail
    try rw [hV]
    clear c0 c1 c2 d0 d1 e0 e1 e2 e3 e4 e5 e6 f6 hV
    obtain ⟨q0, q1, q2, q3, q4, q5, q6⟩ := env_free HXR.out
    obtain ⟨e0, e1, e2, e3, e4, e5, e6⟩ := env_cells HXV.out
    obtain ⟨y0, y1, y2, y3, y4, y5, y6⟩ := env_cells HXR.out
    obtain ⟨R, hR⟩ : ∃ R, set7 V W2.heap.size (.slice (some ⟨b, off, none⟩) cs.length cc) (.slice ia il ic) (.slice oa on oc) (.int .i64 rd) (.int .i64 st) (.int .i64 F) (.int .i64 er) = R := ⟨_, rfl⟩
    have HXE : Hid (R.heap[W2.heap.size]? = some (envObj (some ⟨b, off, none⟩) cs.length cc ia il ic oa on oc rd st F er)) := by show _ = _; rw [← hR]; exact set7_at _ _ _ _ _ _ _ HXR.out
    have HCR : Hid (CelsOwn B R (some ⟨b, off, none⟩) (cs.set k (c.put m x)) y) := HCV.out.off HXR.out (fun b hb => by rw [← hR]; exact set7_far hb)
    have HFR : Hid (FrC B cs.length y w R) := ⟨by rw [← hR]; exact set7_below HFV.out.low (by have := HBB.out; have := HL.out; omega), fun b hb hn => by rw [← hR, set7_far (by have := HL.out; omega)]; exact HFV.out.still b hb hn⟩
    unfold set7 at hR
    go_wp2_with fail
    try rw [hR]
    clear e0 e1 e2 e3 e4 e5 e6 y0 y1 y2 y3 y4 y5 y6 q0 q1 q2 q3 q4 q5 q6
    obtain ⟨z0, z1, z2, z3, z4, z5, z6⟩ := env_cells HXE.out
    refine bodyPost_ret (v := envVal (some ⟨b, off, none⟩) cs.length cc ia il ic oa on oc rd st F er) (by simp [results, Tryd.results93, go_sem, z0, z1, z2, z3, z4, z5, z6]) rfl ?_
    exact ⟨k, c, HKC.out, HHC.out, HN.out, .inl ⟨hm0, hml2, rfl, HCR.out⟩, HFR.out⟩
  · obtain ⟨V, hV⟩ : ∃ V : World, E.setCell ⟨W1.heap.size, 6, none⟩ (.int .i64 11) = V := ⟨_, rfl⟩
    have HCV : Hid (CelsOwn B V (some ⟨b, off, none⟩) cs y) := HCO.out.off HX2.out (fun b hb => by rw [← hV]; exact Below.heap_setCell _ _ _ _ hb)
    have HFV : Hid (FrC B cs.length y w V) := ⟨by rw [← hV]; exact ((HBW.out.mono HBB.out).setCell (p := ⟨W1.heap.size, 6, none⟩) (by show B ≤ W1.heap.size; have := HBB.out; have := HL.out; omega) _), fun b hb hn => by rw [← hV, Below.heap_setCell _ _ _ _ (by show b ≠ W1.heap.size; have := HL.out; omega)]; exact HBW.out.block b hb⟩
    have HXV : Hid (V.heap[W1.heap.size]? = some (envObj (some ⟨b, off, none⟩) cs.length cc ia il ic oa on oc rd st F 11)) := by show _ = _; rw [← hV, mem_set HX2.out]; rfl
    have HXR : Hid (V.heap[W2.heap.size]? = some (envObj none 0 0 none 0 0 none 0 0 0 0 0 0)) := by show _ = _; rw [← hV, Below.heap_setCell _ _ _ _ (by show W2.heap.size ≠ W1.heap.size; have := HL.out; omega)]; exact HX3
    have hq : decide (i < 0) = true ∨ (decide (i < 0) = false ∧ decide ((c.l.length : Int) ≤ i) = true) := by
      by_cases h0 : i < 0
      · exact .inl (decide_eq_true h0)
      · exact .inr ⟨decide_eq_false h0, decide_eq_true (by omega)⟩
    have HIN := Lib.hid hin
    clear ho hin
    rcases hq with g1 | ⟨g1, g2⟩
    all_goals
      go_upto_region 4 with fail
      try rw [hV]
      clear c0 c1 c2 e0 e1 e2 e3 e4 e5 e6 f6 hV
      obtain ⟨q0, q1, q2, q3, q4, q5, q6⟩ := env_free HXR.out
      obtain ⟨e0, e1, e2, e3, e4, e5, e6⟩ := env_cells HXV.out
      obtain ⟨y0, y1, y2, y3, y4, y5, y6⟩ := env_cells HXR.out
      obtain ⟨R, hR⟩ : ∃ R, set7 V W2.heap.size (.slice (some ⟨b, off, none⟩) cs.length cc) (.slice ia il ic) (.slice oa on oc) (.int .i64 rd) (.int .i64 st) (.int .i64 F) (.int .i64 11) = R := ⟨_, rfl⟩
      have HXE : Hid (R.heap[W2.heap.size]? = some (envObj (some ⟨b, off, none⟩) cs.length cc ia il ic oa on oc rd st F 11)) := by show _ = _; rw [← hR]; exact set7_at _ _ _ _ _ _ _ HXR.out
      have HCR : Hid (CelsOwn B R (some ⟨b, off, none⟩) (cs) y) := HCV.out.off HXR.out (fun b hb => by rw [← hR]; exact set7_far hb)
      have HFR : Hid (FrC B cs.length y w R) := ⟨by rw [← hR]; exact set7_below HFV.out.low (by have := HBB.out; have := HL.out; omega), fun b hb hn => by rw [← hR, set7_far (by have := HL.out; omega)]; exact HFV.out.still b hb hn⟩
      unfold set7 at hR
      go_wp2_with fail
      try rw [hR]
      clear e0 e1 e2 e3 e4 e5 e6 y0 y1 y2 y3 y4 y5 y6 q0 q1 q2 q3 q4 q5 q6
      obtain ⟨z0, z1, z2, z3, z4, z5, z6⟩ := env_cells HXE.out
      refine bodyPost_ret (v := envVal (some ⟨b, off, none⟩) cs.length cc ia il ic oa on oc rd st F 11) (by simp [results, Tryd.results93, go_sem, z0, z1, z2, z3, z4, z5, z6]) rfl ?_
      exact ⟨k, c, HKC.out, HHC.out, HN.out, .inr ⟨HIN.out, rfl, HCR.out⟩, HFR.out⟩
end Go.Proofs.YtgochgcchkdlmaaDoor

/-
  Contract: index (package ontimeref16).
-/
namespace Go.Proofs.YtgochgcchkdlmaaDoor
set_option linter.unusedVariables false
set_option linter.unusedSimpArgs false
open Go.RowKit Go.Maps
set_option maxRecDepth 100000
set_option maxHeartbeats 80000000

theorem index16_var {B : Nat} (p : Tree) (pa : Option Addr) (pc : Nat) (ca : Option Addr) (n cc : Nat) (ia : Option Addr) (il ic : Nat) (oa : Option Addr) (on oc : Nat) (rd st F er : Int) (w : World) (hk : p.kind = 2) :
    Calls Tryd.prog 91 #[p.val pa pc, envVal ca n cc ia il ic oa on oc rd st F er] w fun e w' =>
      e = .returned (.tuple #[.int .i32 0, envVal ca n cc ia il ic oa on oc rd st F er]) ∧ Below w.heap.size w w' := by
  obtain ⟨W1, hW1⟩ : ∃ W : World, w.alloc (ndObj p pa pc) = W := ⟨_, rfl⟩
  obtain ⟨W2, hW2⟩ : ∃ W : World, W1.alloc (envObj ca n cc ia il ic oa on oc rd st F er) = W := ⟨_, rfl⟩
  obtain ⟨W3, hW3⟩ : ∃ W : World, W2.alloc (envObj none 0 0 none 0 0 none 0 0 0 0 0 0) = W := ⟨_, rfl⟩
  have b1 : Below w.heap.size w W1 := by rw [← hW1]; exact mem_alloc _ _
  have b2 : Below W1.heap.size W1 W2 := by rw [← hW2]; exact mem_alloc _ _
  have b3 : Below W2.heap.size W2 W3 := by rw [← hW3]; exact mem_alloc _ _
  have hX1 : W3.heap[w.heap.size]? = some (ndObj p pa pc) := mem_keep (by rw [← hW1]; exact mem_new _ _) (mem_then b2 b3)
  have hX2 : W3.heap[W1.heap.size]? = some (envObj ca n cc ia il ic oa on oc rd st F er) := mem_keep (by rw [← hW2]; exact mem_new _ _) b3
  have hX3 : W3.heap[W2.heap.size]? = some (envObj none 0 0 none 0 0 none 0 0 0 0 0 0) := by rw [← hW3]; exact mem_new _ _
  have HB3 := Lib.hid (mem_then b1 (mem_then b2 b3))
  have HL : Hid (w.heap.size < W1.heap.size ∧ W1.heap.size < W2.heap.size) := by
    refine ⟨?_, ?_⟩
    · rw [← hW1]; simp
    · rw [← hW2]; simp
  have HX2 := Lib.hid hX2
  have HX3 := Lib.hid hX3
  have h2 : (p.kind == 2) = true := by simp [hk]
  obtain ⟨x0, x1, x2, x3⟩ := nd_cells hX1
  clear hk b1 b2 b3 hX1 hX2 hX3
  go_enter Tryd.func91, Tryd.ntmps91
  go_upto_region 2 with fail
  try rw [hW1]
  try rw [hW2]
  try rw [hW3]
  clear x0 x1 x2 x3 hW1 hW2 hW3
  have hD0 : Below W3.heap.size W3 (World.drew W3) := (Below.refl _ _).drew
  have HXD2 := Lib.hid (mem_keep HX2.out hD0)
  have HXD3 := Lib.hid (mem_keep HX3.out hD0)
  have HBD : Hid (Below w.heap.size w (World.drew W3)) := mem_then HB3.out hD0
  clear hD0
  refine wp_region_held_drew (S := fun w' => w'.heap[W1.heap.size]? = some (envObj ca n cc ia il ic oa on oc rd st F er)) (by kernel_rfl) HXD2.out (fun hHeld => ?_)
  generalize hwd : World.drew W3 = V at hHeld HXD2 HXD3 HBD ⊢
  clear hwd
  obtain ⟨R, hR⟩ : ∃ R, set7 V W2.heap.size (.slice ca n cc) (.slice ia il ic) (.slice oa on oc) (.int .i64 rd) (.int .i64 st) (.int .i64 F) (.int .i64 er) = R := ⟨_, rfl⟩
  have HXE : Hid (R.heap[W2.heap.size]? = some (envObj ca n cc ia il ic oa on oc rd st F er)) := by show _ = _; rw [← hR]; exact set7_at _ _ _ _ _ _ _ HXD3.out
  have HXS : Hid (R.heap[W1.heap.size]? = some (envObj ca n cc ia il ic oa on oc rd st F er)) := by show _ = _; rw [← hR, set7_far (by have := HL.out; omega)]; exact HXD2.out
  have HBR : Hid (Below w.heap.size w R) := by show Below _ _ _; rw [← hR]; exact set7_below HBD.out (by have := HL.out; omega)
  unfold set7 at hR
  refine hT 0 (envVal ca n cc ia il ic oa on oc rd st F er) rfl (hy := ?_) (h := ?_)
  · intro w' hSw; obtain ⟨z0, z1, z2, z3, z4, z5, z6⟩ := env_cells hSw; go_simp
  (try simp only [Act.put, pA, pB, pD, pE, pF])
  refine hT 1 (.int .i32 0) rfl (hy := ?_) (h := ?_)
  · intro w' hSw; go_simp
  (try simp only [Act.put, pA, pB, pC, pD, pE, pF])
  obtain ⟨y0, y1, y2, y3, y4, y5, y6⟩ := env_cells HXD3.out
  obtain ⟨q0, q1, q2, q3, q4, q5, q6⟩ := env_free HXD3.out
  refine rdH 2 rfl (fun K hK => ?_)
  go_simp
  try rw [hR]
  clear y0 y1 y2 y3 y4 y5 y6 q0 q1 q2 q3 q4 q5 q6
  refine hK.out _ _ (HXS.out) (fun hHeld => ?_)
  clear hK K
  rename_i hOld
  clear hOld
  (try simp only [Act.put, pA, pB, pC, pD, pE, pF])
  clear hHeld
  refine wpAnyH_done (by kernel_rfl) ?_ _
  go_wp2_with fail
  obtain ⟨z0, z1, z2, z3, z4, z5, z6⟩ := env_cells HXE.out
  refine bodyPost_ret (v := .tuple #[.int .i32 0, envVal ca n cc ia il ic oa on oc rd st F er]) (by simp [results, Tryd.results91, go_sem, z0, z1, z2, z3, z4, z5, z6]) rfl ?_
  exact ⟨rfl, HBR.out⟩
theorem index16_item (p : Tree) (pa : Option Addr) (pc : Nat) (cs : List Cel) (ca : Option Addr) (cc : Nat) (ia : Option Addr) (il ic : Nat) (oa : Option Addr) (on oc : Nat) (rd st F er : Int) (w : World) (v : EV) (hk : p.kind = 3) (hl : 0 < p.len) (hr : Rep w p pa)
    (HE : ∀ w' a c, Below w.heap.size w w' → Rep w' (p.kid 0) a → Calls Tryd.prog 30 #[(p.kid 0).val a c, .slice ca cs.length cc] w' (RefEQ v w')) :
    Calls Tryd.prog 91 #[p.val pa pc, envVal ca cs.length cc ia il ic oa on oc rd st F er] w fun e w' =>
      ∃ x, e = .returned (.tuple #[.int .i32 x, envVal ca cs.length cc ia il ic oa on oc rd st F (evK v)]) ∧ Wd.W x ∧ (∀ z, v = .ok z → x = z) ∧ Below w.heap.size w w' := by
  obtain ⟨W1, hW1⟩ : ∃ W : World, w.alloc (ndObj p pa pc) = W := ⟨_, rfl⟩
  obtain ⟨W2, hW2⟩ : ∃ W : World, W1.alloc (envObj ca cs.length cc ia il ic oa on oc rd st F er) = W := ⟨_, rfl⟩
  obtain ⟨W3, hW3⟩ : ∃ W : World, W2.alloc (envObj none 0 0 none 0 0 none 0 0 0 0 0 0) = W := ⟨_, rfl⟩
  have b1 : Below w.heap.size w W1 := by rw [← hW1]; exact mem_alloc _ _
  have b2 : Below W1.heap.size W1 W2 := by rw [← hW2]; exact mem_alloc _ _
  have b3 : Below W2.heap.size W2 W3 := by rw [← hW3]; exact mem_alloc _ _
  have hX1 : W3.heap[w.heap.size]? = some (ndObj p pa pc) := mem_keep (by rw [← hW1]; exact mem_new _ _) (mem_then b2 b3)
  have hX2 : W3.heap[W1.heap.size]? = some (envObj ca cs.length cc ia il ic oa on oc rd st F er) := mem_keep (by rw [← hW2]; exact mem_new _ _) b3
  have hX3 : W3.heap[W2.heap.size]? = some (envObj none 0 0 none 0 0 none 0 0 0 0 0 0) := by rw [← hW3]; exact mem_new _ _
  have HB3 := Lib.hid (mem_then b1 (mem_then b2 b3))
  have HL : Hid (w.heap.size < W1.heap.size ∧ W1.heap.size < W2.heap.size) := by
    refine ⟨?_, ?_⟩
    · rw [← hW1]; simp
    · rw [← hW2]; simp
  obtain ⟨kb, ko, rfl, hkk⟩ := hr.kids.resolve_left (by omega)
  obtain ⟨xa, xc, hnx, hrx⟩ := hkk 0 hl
  rw [Nat.zero_mul, Nat.add_zero] at hnx
  obtain ⟨q, hq⟩ : ∃ q, p.kid 0 = q := ⟨_, rfl⟩
  rw [hq] at hnx hrx HE
  have HC : Hid (∀ w', Below W3.heap.size W3 w' → Calls Tryd.prog 30 #[q.val xa xc, .slice ca cs.length cc] w' (RefEQ v w')) := fun w' hw => HE w' xa xc (mem_then HB3.out hw) (hrx.below (mem_then HB3.out hw))
  have HK : Hid (∀ w', Below W3.heap.size W3 w' → w'.heap[w.heap.size]? = some (ndObj p (some ⟨kb, ko, none⟩) pc) ∧ w'.heap[W1.heap.size]? = some (envObj ca cs.length cc ia il ic oa on oc rd st F er) ∧ w'.heap[W2.heap.size]? = some (envObj none 0 0 none 0 0 none 0 0 0 0 0 0) ∧ NodeAt w' kb ko q xa xc ∧ Below w.heap.size w w') := fun w' hw =>
    ⟨mem_keep hX1 hw, mem_keep hX2 hw, mem_keep hX3 hw, hnx.below (mem_then HB3.out hw) hnx.lt, mem_then HB3.out hw⟩
  have h2 : (p.kind == 2) = false := by simp [hk]
  have hli : (0 : Int) < (p.len : Int) := by omega
  have hlf := hr.fits.len
  obtain ⟨x0, x1, x2, x3⟩ := nd_cells hX1
  clear hk b1 b2 b3 hX1 hX2 hX3 hkk hnx hrx HE hq hr
  obtain ⟨kv, hkv⟩ : ∃ k, evK v = k := ⟨_, rfl⟩
  rw [hkv]
  have HKV := Lib.hid hkv
  clear hkv
  go_enter Tryd.func91, Tryd.ntmps91
  go_upto_region 3 with fail
  try rw [hW1]
  try rw [hW2]
  try rw [hW3]
  clear x0 x1 x2 x3 hW1 hW2 hW3
  have hD0 : Below W3.heap.size W3 (World.drew W3) := (Below.refl _ _).drew
  refine wp_region_held_drew (S := fun w' => Below W3.heap.size W3 w') (by kernel_rfl) hD0 (fun hHeld => ?_)
  generalize hwd : World.drew W3 = V0 at hHeld hD0 ⊢
  clear hwd
  have HD0 := Lib.hid hD0
  clear hD0
  refine hT 0 (.pointer (some ⟨w.heap.size, 3, none⟩)) rfl (hy := ?_) (h := ?_)
  · intro w' hSw; go_simp
  (try simp only [Act.put, pA, pB, pD, pE, pF])
  refine hT 1 (.slice (some ⟨kb, ko, none⟩) p.len pc) rfl (hy := ?_) (h := ?_)
  · intro w' hSw; obtain ⟨z0, z1, z2, z3⟩ := nd_cells (HK.out _ hSw).1; go_simp
  (try simp only [Act.put, pA, pB, pC, pD, pE, pF])
  refine hT 2 (.pointer (some ⟨kb, ko, none⟩)) rfl (hy := ?_) (h := ?_)
  · intro w' hSw; go_simp
  (try simp only [Act.put, pA, pB, pC, pD, pE, pF])
  refine hT 3 (q.val xa xc) rfl (hy := ?_) (h := ?_)
  · intro w' hSw; obtain ⟨z0, z1, z2, z3⟩ := (HK.out _ hSw).2.2.2.1; go_simp
  (try simp only [Act.put, pA, pB, pC, pD, pE, pF])
  refine hT 4 (.pointer (some ⟨W1.heap.size, 0, none⟩)) rfl (hy := ?_) (h := ?_)
  · intro w' hSw; go_simp
  (try simp only [Act.put, pA, pB, pC, pD, pE, pF])
  refine hT 5 (.slice ca cs.length cc) rfl (hy := ?_) (h := ?_)
  · intro w' hSw; obtain ⟨z0, z1, z2, z3, z4, z5, z6⟩ := env_cells (HK.out _ hSw).2.1; go_simp
  (try simp only [Act.put, pA, pB, pC, pD, pE, pF])
  refine rdH 6 rfl (fun K hK => ?_)
  go_simp
  refine (HC.out V0 HD0.out).mono ?_
  rintro e E2 ⟨xv, rfl, hxW, hxy, hB2⟩
  have HBE := Lib.hid (mem_then HD0.out hB2)
  have HXW := Lib.hid hxW
  have HXY := Lib.hid hxy
  clear hB2 hxW hxy
  rw [HKV.out]
  refine hK.out _ _ (HBE.out) (fun hHeld => ?_)
  clear hK K
  rename_i hOld
  clear hOld
  (try simp only [Act.put, pA, pB, pC, pD, pE, pF])
  refine hT 7 (.tuple #[.int .i32 xv, .int .i64 kv]) rfl (hy := ?_) (h := ?_)
  · intro w' hSw; go_simp
  (try simp only [Act.put, pA, pB, pC, pD, pE, pF])
  refine hT 8 (.int .i32 xv) rfl (hy := ?_) (h := ?_)
  · intro w' hSw; go_simp
  (try simp only [Act.put, pA, pB, pC, pD, pE, pF])
  refine hT 9 (.int .i64 kv) rfl (hy := ?_) (h := ?_)
  · intro w' hSw; go_simp
  (try simp only [Act.put, pA, pB, pC, pD, pE, pF])
  refine hT 10 (.int .i32 xv) rfl (hy := ?_) (h := ?_)
  · intro w' hSw; go_simp
  (try simp only [Act.put, pA, pB, pC, pD, pE, pF])
  refine hT 11 (.int .i64 kv) rfl (hy := ?_) (h := ?_)
  · intro w' hSw; go_simp
  (try simp only [Act.put, pA, pB, pC, pD, pE, pF])
  clear hHeld
  refine wpAnyH_done (by kernel_rfl) ?_ _
  obtain ⟨_, hx2, hx3, _, hbw⟩ := HK.out E2 HBE.out
  obtain ⟨V, hV⟩ : ∃ V : World, E2.setCell ⟨W1.heap.size, 6, none⟩ (.int .i64 kv) = V := ⟨_, rfl⟩
  have HX2 : Hid (V.heap[W1.heap.size]? = some (envObj ca cs.length cc ia il ic oa on oc rd st F kv)) := by show _ = _; rw [← hV, mem_set hx2]; rfl
  have HX3 : Hid (V.heap[W2.heap.size]? = some (envObj none 0 0 none 0 0 none 0 0 0 0 0 0)) := by show _ = _; rw [← hV, Below.heap_setCell _ _ _ _ (by show W2.heap.size ≠ W1.heap.size; have := HL.out; omega)]; exact hx3
  have HBV : Hid (Below w.heap.size w V) := by show Below _ _ _; rw [← hV]; exact hbw.setCell (p := ⟨W1.heap.size, 6, none⟩) (by show w.heap.size ≤ W1.heap.size; have := HL.out; omega) _
  have f6 := mem_free hx2 6
  have e6 := mem_cell hx2 6
  clear hx2 hx3 hbw
  go_upto_region 5 with fail
  try rw [hV]
  clear f6 e6 hV
  have hD0 : Below V.heap.size V (World.drew V) := (Below.refl _ _).drew
  have HXD2 := Lib.hid (mem_keep HX2.out hD0)
  have HXD3 := Lib.hid (mem_keep HX3.out hD0)
  have HBD : Hid (Below w.heap.size w (World.drew V)) := mem_then HBV.out hD0
  clear hD0
  refine wp_region_held_drew (S := fun w' => w'.heap[W1.heap.size]? = some (envObj ca cs.length cc ia il ic oa on oc rd st F kv)) (by kernel_rfl) HXD2.out (fun hHeld => ?_)
  generalize hwd : World.drew V = V1 at hHeld HXD2 HXD3 HBD ⊢
  clear hwd
  obtain ⟨R, hR⟩ : ∃ R, set7 V1 W2.heap.size (.slice ca cs.length cc) (.slice ia il ic) (.slice oa on oc) (.int .i64 rd) (.int .i64 st) (.int .i64 F) (.int .i64 kv) = R := ⟨_, rfl⟩
  have HXE : Hid (R.heap[W2.heap.size]? = some (envObj ca cs.length cc ia il ic oa on oc rd st F kv)) := by show _ = _; rw [← hR]; exact set7_at _ _ _ _ _ _ _ HXD3.out
  have HXS : Hid (R.heap[W1.heap.size]? = some (envObj ca cs.length cc ia il ic oa on oc rd st F kv)) := by show _ = _; rw [← hR, set7_far (by have := HL.out; omega)]; exact HXD2.out
  have HBR : Hid (Below w.heap.size w R) := by show Below _ _ _; rw [← hR]; exact set7_below HBD.out (by have := HL.out; omega)
  unfold set7 at hR
  refine hT 0 (.int .i32 xv) rfl (hy := ?_) (h := ?_)
  · intro w' hSw; go_simp
  (try simp only [Act.put, pA, pB, pD, pE, pF])
  refine hT 1 (envVal ca cs.length cc ia il ic oa on oc rd st F kv) rfl (hy := ?_) (h := ?_)
  · intro w' hSw; obtain ⟨z0, z1, z2, z3, z4, z5, z6⟩ := env_cells hSw; go_simp
  (try simp only [Act.put, pA, pB, pC, pD, pE, pF])
  refine hT 2 (.int .i32 xv) rfl (hy := ?_) (h := ?_)
  · intro w' hSw; go_simp
  (try simp only [Act.put, pA, pB, pC, pD, pE, pF])
  obtain ⟨y0, y1, y2, y3, y4, y5, y6⟩ := env_cells HXD3.out
  obtain ⟨q0, q1, q2, q3, q4, q5, q6⟩ := env_free HXD3.out
  refine rdH 3 rfl (fun K hK => ?_)
  go_simp
  try rw [hR]
  clear y0 y1 y2 y3 y4 y5 y6 q0 q1 q2 q3 q4 q5 q6
  refine hK.out _ _ (HXS.out) (fun hHeld => ?_)
  clear hK K
  rename_i hOld
  clear hOld
  (try simp only [Act.put, pA, pB, pC, pD, pE, pF])
  clear hHeld
  refine wpAnyH_done (by kernel_rfl) ?_ _
  go_wp2_with fail
  obtain ⟨z0, z1, z2, z3, z4, z5, z6⟩ := env_cells HXE.out
  refine bodyPost_ret (v := .tuple #[.int .i32 xv, envVal ca cs.length cc ia il ic oa on oc rd st F kv]) (by simp [results, Tryd.results91, go_sem, z0, z1, z2, z3, z4, z5, z6]) rfl ?_
  exact ⟨xv, rfl, HXW.out, HXY.out, HBR.out⟩
end Go.Proofs.YtgochgcchkdlmaaDoor

/-
  Contract: receive (package ontimeref16).
-/
namespace Go.Proofs.YtgochgcchkdlmaaDoor
set_option linter.unusedVariables false
set_option linter.unusedSimpArgs false
open Go.RowKit Go.Maps
set_option maxRecDepth 100000
set_option maxHeartbeats 80000000

theorem FrC.far {B n q : Nat} {y : Nat → Value} {w w1 w2 : World} (h : FrC B n y w w1) (hq : w.heap.size ≤ q) (hlow : Below B w w2) (hf : ∀ b, b ≠ q → w2.heap[b]? = w1.heap[b]?) : FrC B n y w w2 :=
  ⟨hlow, fun b hb hn => (hf b (by omega)).trans (h.still b hb hn)⟩
theorem receive16_any {B : Nat} (t : Tree) (ta : Option Addr) (tc : Nat) (i : Int) (hi : Wd.W i) (cs : List Cel) (y : Nat → Value) (ca : Option Addr) (cc : Nat) (ia : Option Addr) (inp : List Int) (ic : Nat) (oa : Option Addr) (on oc : Nat) (rd : Nat) (st F : Int) (w : World)
    (h : CelsOwn B w ca cs y) (hB : B ≤ w.heap.size) (hin : WordsAt w ia inp) (hr : InB B w t ta) (hl : 0 < t.len) (hrd : rd ≤ 1000000000) (ar : Bool) (har : ((t.kid 0).kind == 3) = ar) (hhit : ∃ (k : Nat) (c : Cel), cs[k]? = some c ∧ c.hit (t.kid 0).name ar) :
    Calls Tryd.prog 92 #[t.val ta tc, .int .i32 i, envVal ca cs.length cc ia inp.length ic oa on oc (rd : Int) st F 0] w fun e w' => ∃ (k : Nat) (c : Cel), cs[k]? = some c ∧ c.hit (t.kid 0).name ar ∧ (∀ (k' : Nat) (d : Cel), k < k' → cs[k']? = some d → ¬ d.hit (t.kid 0).name ar) ∧
      ((0 ≤ i ∧ i < (c.l.length : Int) ∧ e = .returned (envVal ca cs.length cc ia inp.length ic oa on oc ((rd : Int) + 1) st F 0) ∧ CelsOwn B w' ca (cs.set k (c.put i.toNat (inp.getD rd 0))) y) ∨
       (¬ (0 ≤ i ∧ i < (c.l.length : Int)) ∧ e = .returned (envVal ca cs.length cc ia inp.length ic oa on oc (rd : Int) st F 11) ∧ CelsOwn B w' ca cs y)) ∧ FrC B cs.length y w w' := by
  have hil := hin.fits
  obtain ⟨W1, hW1⟩ : ∃ W : World, w.alloc (ndObj t ta tc) = W := ⟨_, rfl⟩
  obtain ⟨W2, hW2⟩ : ∃ W : World, W1.alloc (envObj ca cs.length cc ia inp.length ic oa on oc (rd : Int) st F 0) = W := ⟨_, rfl⟩
  obtain ⟨W3, hW3⟩ : ∃ W : World, W2.alloc (envObj none 0 0 none 0 0 none 0 0 0 0 0 0) = W := ⟨_, rfl⟩
  have b1 : Below w.heap.size w W1 := by rw [← hW1]; exact mem_alloc _ _
  have b2 : Below W1.heap.size W1 W2 := by rw [← hW2]; exact mem_alloc _ _
  have b3 : Below W2.heap.size W2 W3 := by rw [← hW3]; exact mem_alloc _ _
  have hX1 : W3.heap[w.heap.size]? = some (ndObj t ta tc) := mem_keep (by rw [← hW1]; exact mem_new _ _) (mem_then b2 b3)
  have hX2 : W3.heap[W1.heap.size]? = some (envObj ca cs.length cc ia inp.length ic oa on oc (rd : Int) st F 0) := mem_keep (by rw [← hW2]; exact mem_new _ _) b3
  have hX3 : W3.heap[W2.heap.size]? = some (envObj none 0 0 none 0 0 none 0 0 0 0 0 0) := by rw [← hW3]; exact mem_new _ _
  have HB3 := Lib.hid (mem_then b1 (mem_then b2 b3))
  have HL : Hid (w.heap.size < W1.heap.size ∧ W1.heap.size < W2.heap.size ∧ W2.heap.size < W3.heap.size) := by
    refine ⟨?_, ?_, ?_⟩
    · rw [← hW1]; simp
    · rw [← hW2]; simp
    · rw [← hW3]; simp
  have HX1 := Lib.hid hX1
  have HX2 := Lib.hid hX2
  have HX3 := Lib.hid hX3
  have HBB : Hid (B ≤ w.heap.size) := hB
  obtain ⟨kb, ko, rfl, hkb, xa, xc, hnx, _⟩ := kid_in hr hl
  rw [Nat.zero_mul, Nat.add_zero] at hnx
  obtain ⟨q, hq⟩ : ∃ q, t.kid 0 = q := ⟨_, rfl⟩
  rw [hq] at hnx har hhit ⊢
  have HND : Hid (∀ w', Below B w w' → NodeAt w' kb ko q xa xc) := fun w' hw => hnx.below hw hkb
  have HS : Hid (∀ w' x, Below w.heap.size w w' → Wd.W x → Calls Tryd.prog 93 #[q.val xa xc, .int .i32 i, .int .i32 x, envVal ca cs.length cc ia inp.length ic oa on oc (rd : Int) st F 0] w' fun e w2 => ∃ (k : Nat) (c : Cel), cs[k]? = some c ∧ c.hit q.name ar ∧ (∀ (k' : Nat) (d : Cel), k < k' → cs[k']? = some d → ¬ d.hit q.name ar) ∧
      ((0 ≤ i ∧ i < (c.l.length : Int) ∧ e = .returned (envVal ca cs.length cc ia inp.length ic oa on oc (rd : Int) st F 0) ∧ CelsOwn B w2 ca (cs.set k (c.put i.toNat x)) y) ∨
       (¬ (0 ≤ i ∧ i < (c.l.length : Int)) ∧ e = .returned (envVal ca cs.length cc ia inp.length ic oa on oc (rd : Int) st F 11) ∧ CelsOwn B w2 ca cs y)) ∧ FrC B cs.length y w' w2) := fun w' x hw hx =>
    store16_any q xa xc i x hi hx cs y ca cc ia inp.length ic oa on oc (rd : Int) st F 0 w' (h.below hw) (Nat.le_trans hB hw.size) ar har hhit
  have HYS : Hid (∀ k, k < cs.length → ∀ b, (y k).ownBlock = some b → b < w.heap.size) := fun k hk b hb => (own_lt (h.own k _ (List.getElem?_eq_getElem hk)) hb).2
  have hli : (0 : Int) < (t.len : Int) := by omega
  have hlf := hr.fits.len
  have hrd0 : (0 : Int) ≤ (rd : Int) := by omega
  obtain ⟨x0, x1, x2, x3⟩ := nd_cells hX1
  obtain ⟨e0, e1, e2, e3, e4, e5, e6⟩ := env_cells hX2
  have HWI := Lib.hid (hin.below (mem_then b1 (mem_then b2 b3)))
  clear h hB hhit hi hr hq hin hnx b1 b2 b3 hX1 hX2 hX3 har
  obtain ⟨gv, hgv⟩ : ∃ g, inp.getD rd 0 = g := ⟨_, rfl⟩
  rw [hgv]
  have HGV := Lib.hid hgv
  clear hgv
  by_cases hlt : rd < inp.length
  · have hlt2 : (rd : Int) < (inp.length : Int) := by omega
    obtain ⟨z, hz⟩ : ∃ z, inp[rd]? = some z := ⟨_, List.getElem?_eq_getElem hlt⟩
    have hgd : inp.getD rd 0 = z := by rw [List.getD_eq_getElem?_getD, hz]; rfl
    have hwz := HWI.out.words z (List.mem_of_getElem? hz)
    obtain ⟨ib, io, rfl, hik⟩ := HWI.out.at_.resolve_left (by omega)
    have hiz := hik rd z hz
    have hibl := World.block_lt_of_cell? _ _ hiz
    have HXV : Hid (inp.getD rd 0 = z) := hgd
    have HWX : Hid (Wd.W z) := hwz
    clear hgd hwz hik hz
    go_enter Tryd.func92, Tryd.ntmps92
    go_upto_region 4 with fail
    try rw [hW1]
    try rw [hW2]
    try rw [hW3]
    clear x0 x1 x2 x3 e0 e1 e2 e3 e4 e5 e6 hW1 hW2 hW3 hiz hibl
    have hD0 : Below W3.heap.size W3 (World.drew W3) := (Below.refl _ _).drew
    refine wp_region_z 8 (S := fun w' => Below B w w' ∧ w'.heap[w.heap.size]? = some (ndObj t (some ⟨kb, ko, none⟩) tc) ∧ w'.heap[W1.heap.size]? = some (envObj ca cs.length cc (some ⟨ib, io, none⟩) inp.length ic oa on oc (rd : Int) st F 0)) (by kernel_rfl) ⟨(mem_then HB3.out hD0).mono HBB.out, mem_keep HX1.out hD0, mem_keep HX2.out hD0⟩ (fun hHeld => ?_)
    generalize hwd : World.drew W3 = V0 at hHeld hD0 ⊢
    clear hwd
    have HD0 := Lib.hid hD0
    clear hD0
    refine zT 0 (.pointer (some ⟨w.heap.size, 3, none⟩)) rfl (hy := ?_) (h := ?_)
    · intro w' hSw; go_simp
    (try simp only [Act.put, pA, pB, pD, pE, pF])
    refine zT 1 (.slice (some ⟨kb, ko, none⟩) t.len tc) rfl (hy := ?_) (h := ?_)
    · intro w' hSw; obtain ⟨z0, z1, z2, z3⟩ := nd_cells hSw.2.1; go_simp
    (try simp only [Act.put, pA, pB, pC, pD, pE, pF])
    refine zT 2 (.pointer (some ⟨kb, ko, none⟩)) rfl (hy := ?_) (h := ?_)
    · intro w' hSw; go_simp
    (try simp only [Act.put, pA, pB, pC, pD, pE, pF])
    refine zT 3 (q.val xa xc) rfl (hy := ?_) (h := ?_)
    · intro w' hSw; obtain ⟨z0, z1, z2, z3⟩ := HND.out _ hSw.1; go_simp
    (try simp only [Act.put, pA, pB, pC, pD, pE, pF])
    refine zT 4 (.int .i32 i) rfl (hy := ?_) (h := ?_)
    · intro w' hSw; go_simp
    (try simp only [Act.put, pA, pB, pC, pD, pE, pF])
    refine zT 5 (.int .i32 z) rfl (hy := ?_) (h := ?_)
    · intro w' hSw; go_simp
    (try simp only [Act.put, pA, pB, pC, pD, pE, pF])
    refine zT 6 (envVal ca cs.length cc (some ⟨ib, io, none⟩) inp.length ic oa on oc (rd : Int) st F 0) rfl (hy := ?_) (h := ?_)
    · intro w' hSw; obtain ⟨z0, z1, z2, z3, z4, z5, z6⟩ := env_cells hSw.2.2; go_simp
    (try simp only [Act.put, pA, pB, pC, pD, pE, pF])
    refine zR 7 rfl (fun K hK => ?_)
    go_simp
    refine (HS.out V0 z (mem_then HB3.out HD0.out) HWX.out).mono ?_
    rintro e E2 ⟨k, c, hk, hh, hn, hcase, hfr⟩
    have HKC := Lib.hid hk
    have HHC := Lib.hid hh
    have HN := Lib.hid hn
    have hst : ∀ b (o : Obj), w.heap.size ≤ b → W3.heap[b]? = some o → E2.heap[b]? = some o := fun b o hb ho => by
      have h1 := mem_keep ho HD0.out
      exact (hfr.still b (mem_lt h1) (fun k hk e => by have := HYS.out k hk b e; omega)).trans h1
    have HE1 := Lib.hid (hst _ _ (Nat.le_refl _) HX1.out)
    have HE2 := Lib.hid (hst _ _ (by have := HL.out; omega) HX2.out)
    have HE3 := Lib.hid (hst _ _ (by have := HL.out; omega) HX3.out)
    have HFE : Hid (FrC B cs.length y w E2) := (FrC.of (mem_then HB3.out HD0.out) HBB.out).trans hfr
    clear hst hk hh hn hfr
    rcases hcase with ⟨hi0, hi1, rfl, hco⟩ | ⟨hin, rfl, hco⟩
    · have HCE := Lib.hid hco
      have HI0 := Lib.hid (And.intro hi0 hi1)
      clear hco hi0 hi1
      refine hK.out _ _ (⟨HFE.out.low, HE1.out, HE2.out⟩) (fun hHeld => ?_)
      clear hK K
      rename_i hOld
      clear hOld
      (try simp only [Act.put, pA, pB, pC, pD, pE, pF])
      obtain ⟨R0, hR0⟩ : ∃ R, set7 E2 W1.heap.size (.slice ca cs.length cc) (.slice (some ⟨ib, io, none⟩) inp.length ic) (.slice oa on oc) (.int .i64 (rd : Int)) (.int .i64 st) (.int .i64 F) (.int .i64 0) = R := ⟨_, rfl⟩
      have HR2 : Hid (R0.heap[W1.heap.size]? = some (envObj ca cs.length cc (some ⟨ib, io, none⟩) inp.length ic oa on oc (rd : Int) st F 0)) := by show _ = _; rw [← hR0]; exact set7_at _ _ _ _ _ _ _ HE2.out
      have HFAR0 : Hid (∀ b, b ≠ W1.heap.size → R0.heap[b]? = E2.heap[b]?) := fun b hb => by rw [← hR0]; exact set7_far hb
      have HLOW0 : Hid (Below B w R0) := by show Below _ _ _; rw [← hR0]; exact set7_below HFE.out.low (by have := HBB.out; have := HL.out; omega)
      obtain ⟨y0, y1, y2, y3, y4, y5, y6⟩ := env_cells HE2.out
      obtain ⟨q0, q1, q2, q3, q4, q5, q6⟩ := env_free HE2.out
      unfold set7 at hR0
      refine wpAnyZ_ready (rs := [8]) (by kernel_rfl) (by simp) (AllReadyZ.last rfl (by decide) (fun K hK => ?_) AllReadyZ.nil)
      go_simp
      refine hK.out _ _ ?_
      clear hK K
      (try simp only [Act.put, pA, pB, pC, pD, pE, pF])
      try rw [hR0]
      clear y0 y1 y2 y3 y4 y5 y6 q0 q1 q2 q3 q4 q5 q6 hHeld hR0
      refine wpAnyZ_done (by kernel_rfl) ?_ _
      have HC0 : Hid (CelsOwn B R0 ca (cs.set k (c.put i.toNat z)) y) := HCE.out.off HE2.out HFAR0.out
      have HF0 : Hid (FrC B cs.length y w R0) := HFE.out.far (by have := HL.out; omega) HLOW0.out HFAR0.out
      have HR3 : Hid (R0.heap[W2.heap.size]? = some (envObj none 0 0 none 0 0 none 0 0 0 0 0 0)) := (HFAR0.out _ (by have := HL.out; omega)).trans HE3.out
      obtain ⟨V, hV⟩ : ∃ V : World, R0.setCell ⟨W1.heap.size, 3, none⟩ (.int .i64 ((rd : Int) + 1)) = V := ⟨_, rfl⟩
      have HFARV : Hid (∀ b, b ≠ W1.heap.size → V.heap[b]? = R0.heap[b]?) := fun b hb => by rw [← hV]; exact Below.heap_setCell _ _ _ _ hb
      have HV2 : Hid (V.heap[W1.heap.size]? = some (envObj ca cs.length cc (some ⟨ib, io, none⟩) inp.length ic oa on oc ((rd : Int) + 1) st F 0)) := by show _ = _; rw [← hV, mem_set HR2.out]; rfl
      have HV3 : Hid (V.heap[W2.heap.size]? = some (envObj none 0 0 none 0 0 none 0 0 0 0 0 0)) := (HFARV.out _ (by have := HL.out; omega)).trans HR3.out
      have HLOWV : Hid (Below B w V) := by show Below _ _ _; rw [← hV]; exact HLOW0.out.setCell (p := ⟨W1.heap.size, 3, none⟩) (by show B ≤ W1.heap.size; have := HBB.out; have := HL.out; omega) _
      have HCV : Hid (CelsOwn B V ca (cs.set k (c.put i.toNat z)) y) := HC0.out.off HR2.out HFARV.out
      have HFV : Hid (FrC B cs.length y w V) := HF0.out.far (by have := HL.out; omega) HLOWV.out HFARV.out
      obtain ⟨e0, e1, e2, e3, e4, e5, e6⟩ := env_cells HR2.out
      have f3 := mem_free HR2.out 3
      go_upto_region 7 with fail
      try rw [hV]
      clear e0 e1 e2 e3 e4 e5 e6 f3 hV
      obtain ⟨e0, e1, e2, e3, e4, e5, e6⟩ := env_cells HV2.out
      obtain ⟨y0, y1, y2, y3, y4, y5, y6⟩ := env_cells HV3.out
      obtain ⟨q0, q1, q2, q3, q4, q5, q6⟩ := env_free HV3.out
      obtain ⟨R, hR⟩ : ∃ R, set7 V W2.heap.size (.slice ca cs.length cc) (.slice (some ⟨ib, io, none⟩) inp.length ic) (.slice oa on oc) (.int .i64 ((rd : Int) + 1)) (.int .i64 st) (.int .i64 F) (.int .i64 0) = R := ⟨_, rfl⟩
      have HXE : Hid (R.heap[W2.heap.size]? = some (envObj ca cs.length cc (some ⟨ib, io, none⟩) inp.length ic oa on oc ((rd : Int) + 1) st F 0)) := by show _ = _; rw [← hR]; exact set7_at _ _ _ _ _ _ _ HV3.out
      have HCR : Hid (CelsOwn B R ca (cs.set k (c.put i.toNat z)) y) := HCV.out.off HV3.out (fun b hb => by rw [← hR]; exact set7_far hb)
      have HFR : Hid (FrC B cs.length y w R) := HFV.out.far (q := W2.heap.size) (by have := HL.out; omega) (by rw [← hR]; exact set7_below HLOWV.out (by have := HBB.out; have := HL.out; omega)) (fun b hb => by rw [← hR]; exact set7_far hb)
      unfold set7 at hR
      go_wp2_with fail
      try rw [hR]
      clear e0 e1 e2 e3 e4 e5 e6 y0 y1 y2 y3 y4 y5 y6 q0 q1 q2 q3 q4 q5 q6
      obtain ⟨z0, z1, z2, z3, z4, z5, z6⟩ := env_cells HXE.out
      refine bodyPost_ret (v := envVal ca cs.length cc (some ⟨ib, io, none⟩) inp.length ic oa on oc ((rd : Int) + 1) st F 0) (by simp [results, Tryd.results92, go_sem, z0, z1, z2, z3, z4, z5, z6]) rfl ?_
      exact ⟨k, c, HKC.out, HHC.out, HN.out, .inl ⟨HI0.out.1, HI0.out.2, rfl, by rw [← HGV.out, HXV.out]; exact HCR.out⟩, HFR.out⟩
    · have HCE := Lib.hid hco
      have HI0 := Lib.hid hin
      clear hco hin
      refine hK.out _ _ (⟨HFE.out.low, HE1.out, HE2.out⟩) (fun hHeld => ?_)
      clear hK K
      rename_i hOld
      clear hOld
      (try simp only [Act.put, pA, pB, pC, pD, pE, pF])
      obtain ⟨R0, hR0⟩ : ∃ R, set7 E2 W1.heap.size (.slice ca cs.length cc) (.slice (some ⟨ib, io, none⟩) inp.length ic) (.slice oa on oc) (.int .i64 (rd : Int)) (.int .i64 st) (.int .i64 F) (.int .i64 11) = R := ⟨_, rfl⟩
      have HR2 : Hid (R0.heap[W1.heap.size]? = some (envObj ca cs.length cc (some ⟨ib, io, none⟩) inp.length ic oa on oc (rd : Int) st F 11)) := by show _ = _; rw [← hR0]; exact set7_at _ _ _ _ _ _ _ HE2.out
      have HFAR0 : Hid (∀ b, b ≠ W1.heap.size → R0.heap[b]? = E2.heap[b]?) := fun b hb => by rw [← hR0]; exact set7_far hb
      have HLOW0 : Hid (Below B w R0) := by show Below _ _ _; rw [← hR0]; exact set7_below HFE.out.low (by have := HBB.out; have := HL.out; omega)
      obtain ⟨y0, y1, y2, y3, y4, y5, y6⟩ := env_cells HE2.out
      obtain ⟨q0, q1, q2, q3, q4, q5, q6⟩ := env_free HE2.out
      unfold set7 at hR0
      refine wpAnyZ_ready (rs := [8]) (by kernel_rfl) (by simp) (AllReadyZ.last rfl (by decide) (fun K hK => ?_) AllReadyZ.nil)
      go_simp
      refine hK.out _ _ ?_
      clear hK K
      (try simp only [Act.put, pA, pB, pC, pD, pE, pF])
      try rw [hR0]
      clear y0 y1 y2 y3 y4 y5 y6 q0 q1 q2 q3 q4 q5 q6 hHeld hR0
      refine wpAnyZ_done (by kernel_rfl) ?_ _
      have HC0 : Hid (CelsOwn B R0 ca (cs) y) := HCE.out.off HE2.out HFAR0.out
      have HF0 : Hid (FrC B cs.length y w R0) := HFE.out.far (by have := HL.out; omega) HLOW0.out HFAR0.out
      have HR3 : Hid (R0.heap[W2.heap.size]? = some (envObj none 0 0 none 0 0 none 0 0 0 0 0 0)) := (HFAR0.out _ (by have := HL.out; omega)).trans HE3.out
      obtain ⟨e0, e1, e2, e3, e4, e5, e6⟩ := env_cells HR2.out
      obtain ⟨y0, y1, y2, y3, y4, y5, y6⟩ := env_cells HR3.out
      obtain ⟨q0, q1, q2, q3, q4, q5, q6⟩ := env_free HR3.out
      obtain ⟨R, hR⟩ : ∃ R, set7 R0 W2.heap.size (.slice ca cs.length cc) (.slice (some ⟨ib, io, none⟩) inp.length ic) (.slice oa on oc) (.int .i64 (rd : Int)) (.int .i64 st) (.int .i64 F) (.int .i64 11) = R := ⟨_, rfl⟩
      have HXE : Hid (R.heap[W2.heap.size]? = some (envObj ca cs.length cc (some ⟨ib, io, none⟩) inp.length ic oa on oc (rd : Int) st F 11)) := by show _ = _; rw [← hR]; exact set7_at _ _ _ _ _ _ _ HR3.out
      have HCR : Hid (CelsOwn B R ca (cs) y) := HC0.out.off HR3.out (fun b hb => by rw [← hR]; exact set7_far hb)
      have HFR : Hid (FrC B cs.length y w R) := HF0.out.far (q := W2.heap.size) (by have := HL.out; omega) (by rw [← hR]; exact set7_below HLOW0.out (by have := HBB.out; have := HL.out; omega)) (fun b hb => by rw [← hR]; exact set7_far hb)
      unfold set7 at hR
      go_wp2_with fail
      try rw [hR]
      clear e0 e1 e2 e3 e4 e5 e6 y0 y1 y2 y3 y4 y5 y6 q0 q1 q2 q3 q4 q5 q6
      obtain ⟨z0, z1, z2, z3, z4, z5, z6⟩ := env_cells HXE.out
      refine bodyPost_ret (v := envVal ca cs.length cc (some ⟨ib, io, none⟩) inp.length ic oa on oc (rd : Int) st F 11) (by simp [results, Tryd.results92, go_sem, z0, z1, z2, z3, z4, z5, z6]) rfl ?_
      exact ⟨k, c, HKC.out, HHC.out, HN.out, .inr ⟨(by have := HI0.out; first | exact this | (intro h; omega)), rfl, HCR.out⟩, HFR.out⟩
  · have hlt2 : ¬ (rd : Int) < (inp.length : Int) := by omega
    have hlt3 : decide ((rd : Int) < (inp.length : Int)) = false := decide_eq_false hlt2
    have HXV : Hid (inp.getD rd 0 = 0) := by show _ = _; rw [List.getD_eq_getElem?_getD, List.getElem?_eq_none (by omega)]; rfl
    have HWX : Hid (Wd.W 0) := by show Wd.W 0; unfold Wd.W; omega
    go_enter Tryd.func92, Tryd.ntmps92
    go_upto_region 4 with fail
    try rw [hW1]
    try rw [hW2]
    try rw [hW3]
    clear x0 x1 x2 x3 e0 e1 e2 e3 e4 e5 e6 hW1 hW2 hW3 
    have hD0 : Below W3.heap.size W3 (World.drew W3) := (Below.refl _ _).drew
    refine wp_region_z 8 (S := fun w' => Below B w w' ∧ w'.heap[w.heap.size]? = some (ndObj t (some ⟨kb, ko, none⟩) tc) ∧ w'.heap[W1.heap.size]? = some (envObj ca cs.length cc ia inp.length ic oa on oc (rd : Int) st F 0)) (by kernel_rfl) ⟨(mem_then HB3.out hD0).mono HBB.out, mem_keep HX1.out hD0, mem_keep HX2.out hD0⟩ (fun hHeld => ?_)
    generalize hwd : World.drew W3 = V0 at hHeld hD0 ⊢
    clear hwd
    have HD0 := Lib.hid hD0
    clear hD0
    refine zT 0 (.pointer (some ⟨w.heap.size, 3, none⟩)) rfl (hy := ?_) (h := ?_)
    · intro w' hSw; go_simp
    (try simp only [Act.put, pA, pB, pD, pE, pF])
    refine zT 1 (.slice (some ⟨kb, ko, none⟩) t.len tc) rfl (hy := ?_) (h := ?_)
    · intro w' hSw; obtain ⟨z0, z1, z2, z3⟩ := nd_cells hSw.2.1; go_simp
    (try simp only [Act.put, pA, pB, pC, pD, pE, pF])
    refine zT 2 (.pointer (some ⟨kb, ko, none⟩)) rfl (hy := ?_) (h := ?_)
    · intro w' hSw; go_simp
    (try simp only [Act.put, pA, pB, pC, pD, pE, pF])
    refine zT 3 (q.val xa xc) rfl (hy := ?_) (h := ?_)
    · intro w' hSw; obtain ⟨z0, z1, z2, z3⟩ := HND.out _ hSw.1; go_simp
    (try simp only [Act.put, pA, pB, pC, pD, pE, pF])
    refine zT 4 (.int .i32 i) rfl (hy := ?_) (h := ?_)
    · intro w' hSw; go_simp
    (try simp only [Act.put, pA, pB, pC, pD, pE, pF])
    refine zT 5 (.int .i32 0) rfl (hy := ?_) (h := ?_)
    · intro w' hSw; go_simp
    (try simp only [Act.put, pA, pB, pC, pD, pE, pF])
    refine zT 6 (envVal ca cs.length cc ia inp.length ic oa on oc (rd : Int) st F 0) rfl (hy := ?_) (h := ?_)
    · intro w' hSw; obtain ⟨z0, z1, z2, z3, z4, z5, z6⟩ := env_cells hSw.2.2; go_simp
    (try simp only [Act.put, pA, pB, pC, pD, pE, pF])
    refine zR 7 rfl (fun K hK => ?_)
    go_simp
    refine (HS.out V0 0 (mem_then HB3.out HD0.out) HWX.out).mono ?_
    rintro e E2 ⟨k, c, hk, hh, hn, hcase, hfr⟩
    have HKC := Lib.hid hk
    have HHC := Lib.hid hh
    have HN := Lib.hid hn
    have hst : ∀ b (o : Obj), w.heap.size ≤ b → W3.heap[b]? = some o → E2.heap[b]? = some o := fun b o hb ho => by
      have h1 := mem_keep ho HD0.out
      exact (hfr.still b (mem_lt h1) (fun k hk e => by have := HYS.out k hk b e; omega)).trans h1
    have HE1 := Lib.hid (hst _ _ (Nat.le_refl _) HX1.out)
    have HE2 := Lib.hid (hst _ _ (by have := HL.out; omega) HX2.out)
    have HE3 := Lib.hid (hst _ _ (by have := HL.out; omega) HX3.out)
    have HFE : Hid (FrC B cs.length y w E2) := (FrC.of (mem_then HB3.out HD0.out) HBB.out).trans hfr
    clear hst hk hh hn hfr
    rcases hcase with ⟨hi0, hi1, rfl, hco⟩ | ⟨hin, rfl, hco⟩
    · have HCE := Lib.hid hco
      have HI0 := Lib.hid (And.intro hi0 hi1)
      clear hco hi0 hi1
      refine hK.out _ _ (⟨HFE.out.low, HE1.out, HE2.out⟩) (fun hHeld => ?_)
      clear hK K
      rename_i hOld
      clear hOld
      (try simp only [Act.put, pA, pB, pC, pD, pE, pF])
      obtain ⟨R0, hR0⟩ : ∃ R, set7 E2 W1.heap.size (.slice ca cs.length cc) (.slice ia inp.length ic) (.slice oa on oc) (.int .i64 (rd : Int)) (.int .i64 st) (.int .i64 F) (.int .i64 0) = R := ⟨_, rfl⟩
      have HR2 : Hid (R0.heap[W1.heap.size]? = some (envObj ca cs.length cc ia inp.length ic oa on oc (rd : Int) st F 0)) := by show _ = _; rw [← hR0]; exact set7_at _ _ _ _ _ _ _ HE2.out
      have HFAR0 : Hid (∀ b, b ≠ W1.heap.size → R0.heap[b]? = E2.heap[b]?) := fun b hb => by rw [← hR0]; exact set7_far hb
      have HLOW0 : Hid (Below B w R0) := by show Below _ _ _; rw [← hR0]; exact set7_below HFE.out.low (by have := HBB.out; have := HL.out; omega)
      obtain ⟨y0, y1, y2, y3, y4, y5, y6⟩ := env_cells HE2.out
      obtain ⟨q0, q1, q2, q3, q4, q5, q6⟩ := env_free HE2.out
      unfold set7 at hR0
      refine wpAnyZ_ready (rs := [8]) (by kernel_rfl) (by simp) (AllReadyZ.last rfl (by decide) (fun K hK => ?_) AllReadyZ.nil)
      go_simp
      refine hK.out _ _ ?_
      clear hK K
      (try simp only [Act.put, pA, pB, pC, pD, pE, pF])
      try rw [hR0]
      clear y0 y1 y2 y3 y4 y5 y6 q0 q1 q2 q3 q4 q5 q6 hHeld hR0
      refine wpAnyZ_done (by kernel_rfl) ?_ _
      have HC0 : Hid (CelsOwn B R0 ca (cs.set k (c.put i.toNat 0)) y) := HCE.out.off HE2.out HFAR0.out
      have HF0 : Hid (FrC B cs.length y w R0) := HFE.out.far (by have := HL.out; omega) HLOW0.out HFAR0.out
      have HR3 : Hid (R0.heap[W2.heap.size]? = some (envObj none 0 0 none 0 0 none 0 0 0 0 0 0)) := (HFAR0.out _ (by have := HL.out; omega)).trans HE3.out
      obtain ⟨V, hV⟩ : ∃ V : World, R0.setCell ⟨W1.heap.size, 3, none⟩ (.int .i64 ((rd : Int) + 1)) = V := ⟨_, rfl⟩
      have HFARV : Hid (∀ b, b ≠ W1.heap.size → V.heap[b]? = R0.heap[b]?) := fun b hb => by rw [← hV]; exact Below.heap_setCell _ _ _ _ hb
      have HV2 : Hid (V.heap[W1.heap.size]? = some (envObj ca cs.length cc ia inp.length ic oa on oc ((rd : Int) + 1) st F 0)) := by show _ = _; rw [← hV, mem_set HR2.out]; rfl
      have HV3 : Hid (V.heap[W2.heap.size]? = some (envObj none 0 0 none 0 0 none 0 0 0 0 0 0)) := (HFARV.out _ (by have := HL.out; omega)).trans HR3.out
      have HLOWV : Hid (Below B w V) := by show Below _ _ _; rw [← hV]; exact HLOW0.out.setCell (p := ⟨W1.heap.size, 3, none⟩) (by show B ≤ W1.heap.size; have := HBB.out; have := HL.out; omega) _
      have HCV : Hid (CelsOwn B V ca (cs.set k (c.put i.toNat 0)) y) := HC0.out.off HR2.out HFARV.out
      have HFV : Hid (FrC B cs.length y w V) := HF0.out.far (by have := HL.out; omega) HLOWV.out HFARV.out
      obtain ⟨e0, e1, e2, e3, e4, e5, e6⟩ := env_cells HR2.out
      have f3 := mem_free HR2.out 3
      go_upto_region 7 with fail
      try rw [hV]
      clear e0 e1 e2 e3 e4 e5 e6 f3 hV
      obtain ⟨e0, e1, e2, e3, e4, e5, e6⟩ := env_cells HV2.out
      obtain ⟨y0, y1, y2, y3, y4, y5, y6⟩ := env_cells HV3.out
      obtain ⟨q0, q1, q2, q3, q4, q5, q6⟩ := env_free HV3.out
      obtain ⟨R, hR⟩ : ∃ R, set7 V W2.heap.size (.slice ca cs.length cc) (.slice ia inp.length ic) (.slice oa on oc) (.int .i64 ((rd : Int) + 1)) (.int .i64 st) (.int .i64 F) (.int .i64 0) = R := ⟨_, rfl⟩
      have HXE : Hid (R.heap[W2.heap.size]? = some (envObj ca cs.length cc ia inp.length ic oa on oc ((rd : Int) + 1) st F 0)) := by show _ = _; rw [← hR]; exact set7_at _ _ _ _ _ _ _ HV3.out
      have HCR : Hid (CelsOwn B R ca (cs.set k (c.put i.toNat 0)) y) := HCV.out.off HV3.out (fun b hb => by rw [← hR]; exact set7_far hb)
      have HFR : Hid (FrC B cs.length y w R) := HFV.out.far (q := W2.heap.size) (by have := HL.out; omega) (by rw [← hR]; exact set7_below HLOWV.out (by have := HBB.out; have := HL.out; omega)) (fun b hb => by rw [← hR]; exact set7_far hb)
      unfold set7 at hR
      go_wp2_with fail
      try rw [hR]
      clear e0 e1 e2 e3 e4 e5 e6 y0 y1 y2 y3 y4 y5 y6 q0 q1 q2 q3 q4 q5 q6
      obtain ⟨z0, z1, z2, z3, z4, z5, z6⟩ := env_cells HXE.out
      refine bodyPost_ret (v := envVal ca cs.length cc ia inp.length ic oa on oc ((rd : Int) + 1) st F 0) (by simp [results, Tryd.results92, go_sem, z0, z1, z2, z3, z4, z5, z6]) rfl ?_
      exact ⟨k, c, HKC.out, HHC.out, HN.out, .inl ⟨HI0.out.1, HI0.out.2, rfl, by rw [← HGV.out, HXV.out]; exact HCR.out⟩, HFR.out⟩
    · have HCE := Lib.hid hco
      have HI0 := Lib.hid hin
      clear hco hin
      refine hK.out _ _ (⟨HFE.out.low, HE1.out, HE2.out⟩) (fun hHeld => ?_)
      clear hK K
      rename_i hOld
      clear hOld
      (try simp only [Act.put, pA, pB, pC, pD, pE, pF])
      obtain ⟨R0, hR0⟩ : ∃ R, set7 E2 W1.heap.size (.slice ca cs.length cc) (.slice ia inp.length ic) (.slice oa on oc) (.int .i64 (rd : Int)) (.int .i64 st) (.int .i64 F) (.int .i64 11) = R := ⟨_, rfl⟩
      have HR2 : Hid (R0.heap[W1.heap.size]? = some (envObj ca cs.length cc ia inp.length ic oa on oc (rd : Int) st F 11)) := by show _ = _; rw [← hR0]; exact set7_at _ _ _ _ _ _ _ HE2.out
      have HFAR0 : Hid (∀ b, b ≠ W1.heap.size → R0.heap[b]? = E2.heap[b]?) := fun b hb => by rw [← hR0]; exact set7_far hb
      have HLOW0 : Hid (Below B w R0) := by show Below _ _ _; rw [← hR0]; exact set7_below HFE.out.low (by have := HBB.out; have := HL.out; omega)
      obtain ⟨y0, y1, y2, y3, y4, y5, y6⟩ := env_cells HE2.out
      obtain ⟨q0, q1, q2, q3, q4, q5, q6⟩ := env_free HE2.out
      unfold set7 at hR0
      refine wpAnyZ_ready (rs := [8]) (by kernel_rfl) (by simp) (AllReadyZ.last rfl (by decide) (fun K hK => ?_) AllReadyZ.nil)
      go_simp
      refine hK.out _ _ ?_
      clear hK K
      (try simp only [Act.put, pA, pB, pC, pD, pE, pF])
      try rw [hR0]
      clear y0 y1 y2 y3 y4 y5 y6 q0 q1 q2 q3 q4 q5 q6 hHeld hR0
      refine wpAnyZ_done (by kernel_rfl) ?_ _
      have HC0 : Hid (CelsOwn B R0 ca (cs) y) := HCE.out.off HE2.out HFAR0.out
      have HF0 : Hid (FrC B cs.length y w R0) := HFE.out.far (by have := HL.out; omega) HLOW0.out HFAR0.out
      have HR3 : Hid (R0.heap[W2.heap.size]? = some (envObj none 0 0 none 0 0 none 0 0 0 0 0 0)) := (HFAR0.out _ (by have := HL.out; omega)).trans HE3.out
      obtain ⟨e0, e1, e2, e3, e4, e5, e6⟩ := env_cells HR2.out
      obtain ⟨y0, y1, y2, y3, y4, y5, y6⟩ := env_cells HR3.out
      obtain ⟨q0, q1, q2, q3, q4, q5, q6⟩ := env_free HR3.out
      obtain ⟨R, hR⟩ : ∃ R, set7 R0 W2.heap.size (.slice ca cs.length cc) (.slice ia inp.length ic) (.slice oa on oc) (.int .i64 (rd : Int)) (.int .i64 st) (.int .i64 F) (.int .i64 11) = R := ⟨_, rfl⟩
      have HXE : Hid (R.heap[W2.heap.size]? = some (envObj ca cs.length cc ia inp.length ic oa on oc (rd : Int) st F 11)) := by show _ = _; rw [← hR]; exact set7_at _ _ _ _ _ _ _ HR3.out
      have HCR : Hid (CelsOwn B R ca (cs) y) := HC0.out.off HR3.out (fun b hb => by rw [← hR]; exact set7_far hb)
      have HFR : Hid (FrC B cs.length y w R) := HF0.out.far (q := W2.heap.size) (by have := HL.out; omega) (by rw [← hR]; exact set7_below HLOW0.out (by have := HBB.out; have := HL.out; omega)) (fun b hb => by rw [← hR]; exact set7_far hb)
      unfold set7 at hR
      go_wp2_with fail
      try rw [hR]
      clear e0 e1 e2 e3 e4 e5 e6 y0 y1 y2 y3 y4 y5 y6 q0 q1 q2 q3 q4 q5 q6
      obtain ⟨z0, z1, z2, z3, z4, z5, z6⟩ := env_cells HXE.out
      refine bodyPost_ret (v := envVal ca cs.length cc ia inp.length ic oa on oc (rd : Int) st F 11) (by simp [results, Tryd.results92, go_sem, z0, z1, z2, z3, z4, z5, z6]) rfl ?_
      exact ⟨k, c, HKC.out, HHC.out, HN.out, .inr ⟨(by have := HI0.out; first | exact this | (intro h; omega)), rfl, HCR.out⟩, HFR.out⟩
end Go.Proofs.YtgochgcchkdlmaaDoor
