/-
  IrEqual (package ontimelaw17): Equal is reflexive, and detects a change of any field of a function.
-/
import Derived.Test.YtjdfcpjlmfaaaaaLawFns17
import Derived.Test.YtjdfcpjlmfaaaaaIrAwake
import Derived.Test.YtjdfcpjlmfaaaaaIrCopied
import Derived.Test.YtjdfcpjlmfaaaaaIrSet
import Derived.Test.YtjdfcpjlmfaaaaaIrEqual
namespace Go.Proofs.Ytjdfcpjlmfaaaaa
set_option linter.unusedVariables false
set_option linter.unusedSimpArgs false
open Go.RowKit
set_option maxRecDepth 100000
set_option maxHeartbeats 16000000

theorem fn_cells' {W w' : World} {n : Nat} {c0 c1 c2 c3 : Value} {T : TypeId} (h : W.heap[n]? = some (.cells #[c0, c1, c2, c3] T)) (hB : Below W.heap.size W w') :
    w'.cell? ⟨n, 0, none⟩ = some c0 ∧ w'.cell? ⟨n, 1, none⟩ = some c1 ∧ w'.cell? ⟨n, 2, none⟩ = some c2 ∧ w'.cell? ⟨n, 3, none⟩ = some c3 := by
  have h' := (hB.block n (lt_heap h)).trans h
  exact ⟨cell_heap h' 0, cell_heap h' 1, cell_heap h' 2, cell_heap h' 3⟩
theorem eq_same (f : Fn) (w : World) (aa ba ga ha : Option Addr) (ac bc gc hc : Nat) (hf : FnAt w f aa ba) (hg : FnAt w f ga ha) :
    Calls Try.prog 27 #[fnVal f.name f.regs aa f.arrays.length ac ba f.blocks.length bc, fnVal f.name f.regs ga f.arrays.length gc ha f.blocks.length hc] w fun e w' => e = .returned (.bool true) ∧ Below w.heap.size w w' :=
  (eqFn_any f f w aa ba ga ha ac bc gc hc hf hg).mono fun e w' ⟨⟨b, he, hb⟩, hB⟩ => ⟨by rw [he, hb.2 rfl], hB⟩
theorem eq_differs (f g : Fn) (w : World) (aa ba ga ha : Option Addr) (ac bc gc hc : Nat) (hf : FnAt w f aa ba) (hg : FnAt w g ga ha) (h : ¬ f = g) :
    Calls Try.prog 27 #[fnVal f.name f.regs aa f.arrays.length ac ba f.blocks.length bc, fnVal g.name g.regs ga g.arrays.length gc ha g.blocks.length hc] w fun e w' => e = .returned (.bool false) ∧ Below w.heap.size w w' :=
  (eqFn_any f g w aa ba ga ha ac bc gc hc hf hg).mono fun e w' ⟨⟨b, he, hb⟩, hB⟩ => ⟨by
    cases b with
    | false => exact he
    | true => exact absurd (hb.1 rfl) h, hB⟩
theorem eq_differs' (f g : Fn) (w : World) (aa ba ga ha : Option Addr) (ac bc gc hc : Nat) (hf : FnAt w f aa ba) (hg : FnAt w g ga ha) (h : ¬ f = g) :
    Calls Try.prog 27 #[fnVal g.name g.regs ga g.arrays.length gc ha g.blocks.length hc, fnVal f.name f.regs aa f.arrays.length ac ba f.blocks.length bc] w fun e w' => e = .returned (.bool false) ∧ Below w.heap.size w w' :=
  eq_differs g f w ga ha aa ba gc hc ac bc hg hf (fun e => h e.symm)

theorem wrap_ne {r b : Int} (hr : isI64 r) (h0 : -128 ≤ b) (h1 : b ≤ 127) (hb : ¬ b = 0) : isI64 (wrap64 (r + b)) ∧ ¬ wrap64 (r + b) = r := by
  obtain ⟨h2, h3⟩ := hr
  unfold isI64 wrap64
  omega
theorem two_new (w : World) (a b : Value) (T : TypeId) : ∀ (j : Nat) (x : Value), [a, b][j]? = some x → (w.alloc (.cells #[a, b] T)).cell? ((⟨w.heap.size, 0, none⟩ : Addr).add j) = some x := by
  intro j x hx
  rw [addr_add, Nat.zero_add, World.cell?_alloc_new]
  simpa using hx
theorem one_more {α : Type} {l m : List α} (h : l = l ++ m) : m = [] := by
  have := congrArg List.length h
  simp at this
  exact this
theorem irEqual_any (f : Fn) (at_ kk by_ : Int) (ha0 : 0 ≤ at_) (ha1 : at_ ≤ 255) (hk0 : 0 ≤ kk) (hk1 : kk ≤ 255) (hb0 : -128 ≤ by_) (hb1 : by_ ≤ 127) (aa ba : Option Addr) (ac bc : Nat) (w : World) (hf : FnAt w f aa ba) (hnm : f.name.size ≤ 140737488351232) (hsy : ∀ b ∈ f.blocks, ∀ i ∈ b.code, i.sym.size ≤ 140737488351232) :
    Calls Try.prog 8 #[fnVal f.name f.regs aa f.arrays.length ac ba f.blocks.length bc, .int .u8 at_, .int .u8 kk, .int .i8 by_] w fun e w' => e = .returned (.bool true) ∧ Below w.heap.size w w' := by
  have HF := Lib.hid hf
  have HSY := Lib.hid hsy
  clear hf hsy
  obtain ⟨W, hW⟩ : ∃ W : World, w.alloc (.cells #[.string f.name, .int .i64 f.regs, .slice aa f.arrays.length ac, .slice ba f.blocks.length bc] 25) = W := ⟨_, rfl⟩
  have hWs : w.heap.size < W.heap.size := by rw [← hW]; simp
  have HBW : Hid (Below w.heap.size w W) := by show Below _ _ _; rw [← hW]; exact (Below.refl _ _).alloc (Nat.le_refl _) _
  have HX : Hid (W.heap[w.heap.size]? = some (.cells #[.string f.name, .int .i64 f.regs, .slice aa f.arrays.length ac, .slice ba f.blocks.length bc] 25)) := by show _ = _; rw [← hW]; exact heap_new _ _
  have HFW := Lib.hid (HF.out.below HBW.out)
  go_enter Try.func8, Try.ntmps8
  go_wp2_with fail
  clear hW
  refine (awake_any W).mono ?_
  rintro e w1 ⟨rfl, hB1⟩
  have HB1 := Lib.hid hB1
  clear hB1
  obtain ⟨y0, y1, y2, y3⟩ := fn_cells' HX.out HB1.out
  go_wp2_with fail
  refine (small_any f aa ba ac bc w1 (HFW.out.below HB1.out)).mono ?_
  rintro e w2 ⟨rfl, hB2⟩
  have HB2 := Lib.hid (below_next HB1.out hB2)
  clear hB2 y0 y1 y2 y3
  cases hsm : smallOk f with
  | false =>
    simp only [bit01, cond_false]
    go_wp2_with fail
    go_ret
    exact ⟨rfl, HBW.out.trans (HB2.out.mono (by omega))⟩
  | true =>
  simp only [bit01, cond_true]
  have HSM := Lib.hid (small_blocks hsm)
  have hal : f.arrays.length ≤ 12 := by
    unfold smallOk at hsm
    rw [Bool.and_eq_true, Bool.and_eq_true, Bool.and_eq_true] at hsm
    simpa using hsm.1.1.2
  have hbl := HSM.out.1
  clear hsm
  obtain ⟨y0, y1, y2, y3⟩ := fn_cells' HX.out HB2.out
  go_wp2_with fail
  refine (copied_any f aa ba ac bc _ (HFW.out.below HB2.out) (by omega) (by omega) (fun b hb => by have := HSM.out.2 b hb; omega)).mono ?_
  rintro e w3 ⟨na, nc, ma, mc, l, rfl, hcp, hB3⟩
  have HCP := Lib.hid hcp
  have HB3 := Lib.hid (below_next HB2.out hB3)
  have h23 := hB3.size
  clear hcp hB3 y0 y1 y2 y3
  have hll : l.length = f.blocks.length := by have := congrArg List.length HCP.out.eq; simpa using this
  have HLL := Lib.hid hll
  clear hll
  obtain ⟨Z, hZ⟩ : ∃ Z : World, w3.alloc (.cells #[.string f.name, .int .i64 f.regs, .slice na f.arrays.length nc, .slice ma f.blocks.length mc] 25) = Z := ⟨_, rfl⟩
  have hz9 : w3.heap.size < Z.heap.size := by rw [← hZ]; simp
  have HBZ : Hid (Below w3.heap.size w3 Z) := by show Below _ _ _; rw [← hZ]; exact (Below.refl _ _).alloc (Nat.le_refl _) _
  have HZO : Hid (Z.heap[w3.heap.size]? = some (.cells #[.string f.name, .int .i64 f.regs, .slice na f.arrays.length nc, .slice ma f.blocks.length mc] 25)) := by show _ = _; rw [← hZ]; exact heap_new _ _
  have HB4 := Lib.hid (below_next HB3.out HBZ.out)
  have HCZ := Lib.hid (HCP.out.keep HBZ.out)
  have HFZ := Lib.hid (HCZ.out.fnAt HF.out.regs HF.out.name HF.out.arrays.sizes HF.out.arrays.fits HF.out.blocks.fits)
  obtain ⟨y0, y1, y2, y3⟩ := fn_cells' HX.out HB4.out
  obtain ⟨g0, g1, g2, g3⟩ := fn_cells' HZO.out (Below.refl _ _)
  go_wp2_with fail
  clear hZ
  refine (eq_same f Z aa ba na ma ac bc nc mc (HFW.out.below HB4.out) HFZ.out).mono ?_
  rintro e w4 ⟨rfl, hB5⟩
  have HB5 := Lib.hid hB5
  clear hB5 y0 y1 y2 y3 g0 g1 g2 g3
  obtain ⟨y0, y1, y2, y3⟩ := fn_cells' HX.out (below_next HB4.out HB5.out)
  obtain ⟨g0, g1, g2, g3⟩ := fn_cells' HZO.out HB5.out
  go_wp2_with fail
  refine (eq_same f w4 na ma aa ba nc mc ac bc (HFZ.out.below HB5.out) (HFW.out.below (below_next HB4.out HB5.out))).mono ?_
  rintro e w5 ⟨rfl, hB6⟩
  have HB6 := Lib.hid (below_next HB5.out hB6)
  have HBW6 := Lib.hid (below_next HB4.out HB6.out)
  clear hB6 y0 y1 y2 y3 g0 g1 g2 g3
  by_cases hby : by_ = 0
  · subst hby
    go_wp2_with fail
    go_ret
    exact ⟨rfl, HBW.out.trans (HBW6.out.mono (by omega))⟩
  have hby' : (by_ == 0) = false := by simpa using hby
  have HBY := Lib.hid hby
  clear hby
  have h5s := HB6.out.size
  have HG6 := Lib.hid ((HB6.out.block _ hz9).trans HZO.out)
  have HC6 := Lib.hid (HCZ.out.keep HB6.out)
  have z6 := frozen_heap HG6.out
  obtain ⟨g0, g1, g2, g3⟩ := fn_cells' HG6.out (Below.refl _ _)
  have h7 : at_ % 7 = 0 ∨ at_ % 7 = 1 ∨ at_ % 7 = 2 ∨ at_ % 7 = 3 ∨ at_ % 7 = 4 ∨ at_ % 7 = 5 ∨ at_ % 7 = 6 := by omega
  have H7 := Lib.hid h7
  clear h7
  have hW3 : W.heap.size ≤ w3.heap.size := HB3.out.size
  have hgw : w.heap.size ≠ w3.heap.size := by have := HB3.out.size; omega
  have hgw' : w3.heap.size ≠ w.heap.size := by omega
  obtain ⟨y0, y1, y2, y3⟩ := fn_cells' HX.out HBW6.out
  -- CASES
  rcases H7.out with h | h | h | h | h | h | h
  · skip
    obtain ⟨hr1, hr2⟩ := wrap_ne HF.out.regs hb0 hb1 HBY.out
    obtain ⟨rg, hrg⟩ : ∃ rg, wrap64 (f.regs + by_) = rg := ⟨_, rfl⟩
    rw [hrg] at hr1 hr2
    have HNE : Hid (¬ f = { f with regs := rg }) := fun e => hr2 (congrArg Fn.regs e).symm
    have HR1 := Lib.hid hr1
    clear hr1 hr2
    obtain ⟨X, hX⟩ : ∃ X : World, w5.setCell ⟨w3.heap.size, 1, none⟩ (.int .i64 rg) = X := ⟨_, rfl⟩
    have HXG : Hid (X.heap[w3.heap.size]? = some (.cells #[.string f.name, .int .i64 rg, .slice na f.arrays.length nc, .slice ma f.blocks.length mc] 25)) := by show _ = _; rw [← hX, setCell_heap HG6.out]; simp
    have HBX : Hid (Below W.heap.size W X) := by show Below _ _ _; rw [← hX]; exact HBW6.out.setCell (by show W.heap.size ≤ w3.heap.size; omega) _
    have HGX : Hid (FnAt X { f with regs := rg } na ma) := by
      have h1 : CopyAt w2.heap.size 68 52 60 X f (.slice na f.arrays.length nc) (.slice ma f.blocks.length mc) l := by rw [← hX]; exact HC6.out.setBox HG6.out (by decide) (by decide) (by decide)
      have h2 := h1.fnAt HF.out.regs HF.out.name HF.out.arrays.sizes HF.out.arrays.fits HF.out.blocks.fits
      exact ⟨h2.arrays, h2.blocks, HR1.out, h2.name⟩
    have HEQ : Hid (∀ W', Below X.heap.size X W' → Calls Try.prog 27 #[fnVal f.name f.regs aa f.arrays.length ac ba f.blocks.length bc, fnVal f.name rg na f.arrays.length nc ma f.blocks.length mc] W' fun e w' => e = .returned (.bool false) ∧ Below W'.heap.size W' w') := fun W' h => by
      have := eq_differs f { f with regs := rg } W' aa ba na ma ac bc nc mc (HFW.out.below (below_next HBX.out h)) (HGX.out.below h) HNE.out
      show Calls _ _ _ _ _
      simpa using this
    have HEQ' : Hid (∀ W', Below X.heap.size X W' → Calls Try.prog 27 #[fnVal f.name rg na f.arrays.length nc ma f.blocks.length mc, fnVal f.name f.regs aa f.arrays.length ac ba f.blocks.length bc] W' fun e w' => e = .returned (.bool false) ∧ Below W'.heap.size W' w') := fun W' h => by
      have := eq_differs' f { f with regs := rg } W' aa ba na ma ac bc nc mc (HFW.out.below (below_next HBX.out h)) (HGX.out.below h) HNE.out
      show Calls _ _ _ _ _
      simpa using this
    have hz1 := z6 1
    have y0' := (HBX.out.cell (p := ⟨w.heap.size, 0, none⟩) hWs).trans (cell_heap HX.out 0)
    have y1' := (HBX.out.cell (p := ⟨w.heap.size, 1, none⟩) hWs).trans (cell_heap HX.out 1)
    have y2' := (HBX.out.cell (p := ⟨w.heap.size, 2, none⟩) hWs).trans (cell_heap HX.out 2)
    have y3' := (HBX.out.cell (p := ⟨w.heap.size, 3, none⟩) hWs).trans (cell_heap HX.out 3)
    simp only [List.getElem?_toArray, List.getElem?_cons_zero, List.getElem?_cons_succ] at y0' y1' y2' y3'
    obtain ⟨k0, k1, k2, k3⟩ := fn_cells' HXG.out (Below.refl _ _)
    go_wp2_with fail
    clear hX hrg hz1 y0' y1' y2' y3' k0 k1 k2 k3 g0 g1 g2 g3
    clear y0 y1 y2 y3
    refine (HEQ.out X (Below.refl _ _)).mono ?_
    rintro e w6 ⟨rfl, hB7⟩
    have HB7 := Lib.hid hB7
    clear hB7
    obtain ⟨y0, y1, y2, y3⟩ := fn_cells' HX.out (below_next HBX.out HB7.out)
    obtain ⟨g0, g1, g2, g3⟩ := fn_cells' HXG.out HB7.out
    go_wp2_with fail
    refine (HEQ'.out w6 HB7.out).mono ?_
    rintro e w7 ⟨rfl, hB8⟩
    have HB8 := Lib.hid (below_next HBX.out (below_next HB7.out hB8))
    clear hB8
    go_wp2_with fail
    go_ret
    exact ⟨rfl, HBW.out.trans (HB8.out.mono (by omega))⟩
  · skip
    obtain ⟨nm, hnm'⟩ : ∃ nm, f.name ++ ⟨#[120]⟩ = nm := ⟨_, rfl⟩
    have hsz : nm.size = f.name.size + 1 := by rw [← hnm', ByteArray.size_append]; rfl
    have HSZ := Lib.hid hsz
    have HNE : Hid (¬ f = { f with name := nm }) := fun e => by have h1 : f.name = nm := congrArg Fn.name e; rw [← h1] at hsz; omega
    clear hsz
    obtain ⟨X, hX⟩ : ∃ X : World, w5.setCell ⟨w3.heap.size, 0, none⟩ (.string nm) = X := ⟨_, rfl⟩
    have HXG : Hid (X.heap[w3.heap.size]? = some (.cells #[.string nm, .int .i64 f.regs, .slice na f.arrays.length nc, .slice ma f.blocks.length mc] 25)) := by show _ = _; rw [← hX, setCell_heap HG6.out]; simp
    have HBX : Hid (Below W.heap.size W X) := by show Below _ _ _; rw [← hX]; exact HBW6.out.setCell (by show W.heap.size ≤ w3.heap.size; omega) _
    have HGX : Hid (FnAt X { f with name := nm } na ma) := by
      have h1 : CopyAt w2.heap.size 68 52 60 X f (.slice na f.arrays.length nc) (.slice ma f.blocks.length mc) l := by rw [← hX]; exact HC6.out.setBox HG6.out (by decide) (by decide) (by decide)
      have h2 := h1.fnAt HF.out.regs HF.out.name HF.out.arrays.sizes HF.out.arrays.fits HF.out.blocks.fits
      exact ⟨h2.arrays, h2.blocks, h2.regs, by have := HSZ.out; show nm.size ≤ _; omega⟩
    have HEQ : Hid (∀ W', Below X.heap.size X W' → Calls Try.prog 27 #[fnVal f.name f.regs aa f.arrays.length ac ba f.blocks.length bc, fnVal nm f.regs na f.arrays.length nc ma f.blocks.length mc] W' fun e w' => e = .returned (.bool false) ∧ Below W'.heap.size W' w') := fun W' h => by
      have := eq_differs f { f with name := nm } W' aa ba na ma ac bc nc mc (HFW.out.below (below_next HBX.out h)) (HGX.out.below h) HNE.out
      show Calls _ _ _ _ _
      simpa using this
    have HEQ' : Hid (∀ W', Below X.heap.size X W' → Calls Try.prog 27 #[fnVal nm f.regs na f.arrays.length nc ma f.blocks.length mc, fnVal f.name f.regs aa f.arrays.length ac ba f.blocks.length bc] W' fun e w' => e = .returned (.bool false) ∧ Below W'.heap.size W' w') := fun W' h => by
      have := eq_differs' f { f with name := nm } W' aa ba na ma ac bc nc mc (HFW.out.below (below_next HBX.out h)) (HGX.out.below h) HNE.out
      show Calls _ _ _ _ _
      simpa using this
    have hz1 := z6 0
    have y0' := (HBX.out.cell (p := ⟨w.heap.size, 0, none⟩) hWs).trans (cell_heap HX.out 0)
    have y1' := (HBX.out.cell (p := ⟨w.heap.size, 1, none⟩) hWs).trans (cell_heap HX.out 1)
    have y2' := (HBX.out.cell (p := ⟨w.heap.size, 2, none⟩) hWs).trans (cell_heap HX.out 2)
    have y3' := (HBX.out.cell (p := ⟨w.heap.size, 3, none⟩) hWs).trans (cell_heap HX.out 3)
    simp only [List.getElem?_toArray, List.getElem?_cons_zero, List.getElem?_cons_succ] at y0' y1' y2' y3'
    obtain ⟨k0, k1, k2, k3⟩ := fn_cells' HXG.out (Below.refl _ _)
    go_wp2_with fail
    clear hX hnm' hz1 y0' y1' y2' y3' k0 k1 k2 k3 g0 g1 g2 g3
    clear y0 y1 y2 y3
    refine (HEQ.out X (Below.refl _ _)).mono ?_
    rintro e w6 ⟨rfl, hB7⟩
    have HB7 := Lib.hid hB7
    clear hB7
    obtain ⟨y0, y1, y2, y3⟩ := fn_cells' HX.out (below_next HBX.out HB7.out)
    obtain ⟨g0, g1, g2, g3⟩ := fn_cells' HXG.out HB7.out
    go_wp2_with fail
    refine (HEQ'.out w6 HB7.out).mono ?_
    rintro e w7 ⟨rfl, hB8⟩
    have HB8 := Lib.hid (below_next HBX.out (below_next HB7.out hB8))
    clear hB8
    go_wp2_with fail
    go_ret
    exact ⟨rfl, HBW.out.trans (HB8.out.mono (by omega))⟩
  · skip
    have HNE : Hid (¬ f = { f with blocks := f.blocks ++ [⟨[], 0, 0, 0, 0⟩] }) := fun e => by have := one_more (congrArg Fn.blocks e); cases this
    have HRW : Hid (w5.ownsRow w2.heap.size 52 5 (.slice ma f.blocks.length mc) f.blocks.length (l.flatMap BlkP.cells)) := by
      show World.ownsRow _ _ _ _ _ _ _
      have := HC6.out.blks.row
      rwa [HLL.out] at this
    obtain ⟨i0, hi, hz0, hz1, hz2⟩ := info_parts Try.infoBlk
    go_wp2_with (at_builtin; refine wpList_append_row _ rfl (.tmp 151) (.tmp 153) 23 rfl w2.heap.size 52 i0 _ 5 56 Try.underlying23 hi hz0 hz1 hz2 rfl (by decide) (.slice ma f.blocks.length mc) f.blocks.length (l.flatMap BlkP.cells) rfl (HRW.out.alloc _) ⟨w5.heap.size, 0, none⟩ 1 1 (BlkP.cells ⟨⟨[], 0, 0, 0, 0⟩, none, 0⟩) rfl rfl (blk_new w5 ⟨⟨[], 0, 0, 0, 0⟩, none, 0⟩ _) (BlkP.one _) (by decide) (by unfold maxLen; omega) (by omega) (by simp; omega) ?_)
    intro gb cap w8 hown8 hgrow8 hplace8
    have hvb : ∀ j, (Value.slice ma f.blocks.length mc).ownBlock = some j → w2.heap.size ≤ j ∧ j < w3.heap.size := fun j hj => ownsRow_lt HCP.out.blks.row hj
    have hBA : Below w5.heap.size w5 (w5.alloc (.cells #[.slice none 0 0, .int .u8 0, .int .i64 0, .int .i64 0, .int .i64 0] 52)) := (Below.refl _ _).alloc (Nat.le_refl _) _
    have hg8 : w8.heap[w3.heap.size]? = some (.cells #[.string f.name, .int .i64 f.regs, .slice na f.arrays.length nc, .slice ma f.blocks.length mc] 25) := (hgrow8.block _ (by simp; omega) (fun e => by have := (hvb _ e.symm).2; omega)).trans ((hBA.block _ (by omega)).trans HG6.out)
    have HG8 := Lib.hid hg8
    have q9 : w8.cell? ⟨w3.heap.size, 3, none⟩ = some (.slice ma f.blocks.length mc) := cell_heap HG8.out 3
    have z9 : w8.frozen? ⟨w3.heap.size, 3, none⟩ = false := frozen_heap HG8.out 3
    have HB8 : Hid (Below W.heap.size W w8) := (below_next HBW6.out hBA).grown hgrow8 (by simp; omega) (fun j hj => by have := (hvb j hj).1; have := HB2.out.size; omega)
    have HP8 : Hid (CopyAt w2.heap.size 68 52 60 w8 { f with blocks := f.blocks ++ [⟨[], 0, 0, 0, 0⟩] } (.slice na f.arrays.length nc) (.slice (some ⟨gb, 0, none⟩) (f.blocks.length + 1) cap) (l ++ [⟨⟨[], 0, 0, 0, 0⟩, none, 0⟩])) := by
      have := HC6.out.push (V := w5.alloc (.cells #[.slice none 0 0, .int .u8 0, .int .i64 0, .int .i64 0, .int .i64 0] 52)) (p := ⟨⟨[], 0, 0, 0, 0⟩, none, 0⟩) (by omega) hBA ⟨by decide, by decide, ⟨by decide, by decide⟩, ⟨by decide, by decide⟩, ⟨by decide, by decide⟩⟩ (fun i hi => (by cases hi)) (Nat.zero_le _) ⟨rfl, .inl ⟨rfl, rfl⟩⟩ hgrow8 (by rw [HLL.out]; exact hown8) (by simpa using hplace8)
      rw [HLL.out] at this
      exact this
    clear hown8 hgrow8 hplace8 hvb hBA hg8
    obtain ⟨X, hX⟩ : ∃ X : World, w8.setCell ⟨w3.heap.size, 3, none⟩ (.slice (some ⟨gb, 0, none⟩) (f.blocks.length + 1) cap) = X := ⟨_, rfl⟩
    have HXG : Hid (X.heap[w3.heap.size]? = some (.cells #[.string f.name, .int .i64 f.regs, .slice na f.arrays.length nc, .slice (some ⟨gb, 0, none⟩) (f.blocks.length + 1) cap] 25)) := by show _ = _; rw [← hX, setCell_heap HG8.out]; simp
    have HBX : Hid (Below W.heap.size W X) := by show Below _ _ _; rw [← hX]; exact HB8.out.setCell (by show W.heap.size ≤ w3.heap.size; omega) _
    have HGX : Hid (FnAt X { f with blocks := f.blocks ++ [⟨[], 0, 0, 0, 0⟩] } na (some ⟨gb, 0, none⟩)) := by
      have h1 : CopyAt w2.heap.size 68 52 60 X { f with blocks := f.blocks ++ [⟨[], 0, 0, 0, 0⟩] } (.slice na f.arrays.length nc) (.slice (some ⟨gb, 0, none⟩) (f.blocks.length + 1) cap) (l ++ [⟨⟨[], 0, 0, 0, 0⟩, none, 0⟩]) := by rw [← hX]; exact HP8.out.setBox HG8.out (by decide) (by decide) (by decide)
      exact CopyAt.fnAt (ac := nc) (bc := cap) (by simpa using h1) HF.out.regs HF.out.name HF.out.arrays.sizes HF.out.arrays.fits (by simp; omega)
    have HEQ : Hid (∀ W', Below X.heap.size X W' → Calls Try.prog 27 #[fnVal f.name f.regs aa f.arrays.length ac ba f.blocks.length bc, fnVal f.name f.regs na f.arrays.length nc (some ⟨gb, 0, none⟩) (f.blocks.length + 1) cap] W' fun e w' => e = .returned (.bool false) ∧ Below W'.heap.size W' w') := fun W' h => by
      have := eq_differs f { f with blocks := f.blocks ++ [⟨[], 0, 0, 0, 0⟩] } W' aa ba na (some ⟨gb, 0, none⟩) ac bc nc cap (HFW.out.below (below_next HBX.out h)) (HGX.out.below h) HNE.out
      show Calls _ _ _ _ _
      simpa using this
    have HEQ' : Hid (∀ W', Below X.heap.size X W' → Calls Try.prog 27 #[fnVal f.name f.regs na f.arrays.length nc (some ⟨gb, 0, none⟩) (f.blocks.length + 1) cap, fnVal f.name f.regs aa f.arrays.length ac ba f.blocks.length bc] W' fun e w' => e = .returned (.bool false) ∧ Below W'.heap.size W' w') := fun W' h => by
      have := eq_differs' f { f with blocks := f.blocks ++ [⟨[], 0, 0, 0, 0⟩] } W' aa ba na (some ⟨gb, 0, none⟩) ac bc nc cap (HFW.out.below (below_next HBX.out h)) (HGX.out.below h) HNE.out
      show Calls _ _ _ _ _
      simpa using this
    have y0' := (HBX.out.cell (p := ⟨w.heap.size, 0, none⟩) hWs).trans (cell_heap HX.out 0)
    have y1' := (HBX.out.cell (p := ⟨w.heap.size, 1, none⟩) hWs).trans (cell_heap HX.out 1)
    have y2' := (HBX.out.cell (p := ⟨w.heap.size, 2, none⟩) hWs).trans (cell_heap HX.out 2)
    have y3' := (HBX.out.cell (p := ⟨w.heap.size, 3, none⟩) hWs).trans (cell_heap HX.out 3)
    simp only [List.getElem?_toArray, List.getElem?_cons_zero, List.getElem?_cons_succ] at y0' y1' y2' y3'
    obtain ⟨k0, k1, k2, k3⟩ := fn_cells' HXG.out (Below.refl _ _)
    go_wp2_with fail
    clear hX q9 z9 y0' y1' y2' y3' k0 k1 k2 k3 g0 g1 g2 g3
    clear y0 y1 y2 y3
    refine (HEQ.out X (Below.refl _ _)).mono ?_
    rintro e w6 ⟨rfl, hB7⟩
    have HB7 := Lib.hid hB7
    clear hB7
    obtain ⟨y0, y1, y2, y3⟩ := fn_cells' HX.out (below_next HBX.out HB7.out)
    obtain ⟨g0, g1, g2, g3⟩ := fn_cells' HXG.out HB7.out
    go_wp2_with fail
    refine (HEQ'.out w6 HB7.out).mono ?_
    rintro e w7 ⟨rfl, hB8⟩
    have HB8 := Lib.hid (below_next HBX.out (below_next HB7.out hB8))
    clear hB8
    go_wp2_with fail
    go_ret
    exact ⟨rfl, HBW.out.trans (HB8.out.mono (by omega))⟩
  · skip
    have HNE : Hid (¬ f = { f with arrays := f.arrays ++ [(⟨#[120]⟩, by_)] }) := fun e => by have := one_more (congrArg Fn.arrays e); cases this
    obtain ⟨i0, hi, hz0, hz1, hz2⟩ := info_parts Try.infoArr
    have HAR := Lib.hid HC6.out.arrs
    go_wp2_with (at_builtin; refine wpList_append_row _ rfl (.tmp 161) (.tmp 164) 22 rfl w2.heap.size 68 i0 _ 2 24 Try.underlying22 hi hz0 hz1 hz2 rfl (by decide) (.slice na f.arrays.length nc) f.arrays.length (f.arrays.flatMap arrOne) rfl (HAR.out.alloc _) ⟨w5.heap.size, 0, none⟩ 1 1 [.string ⟨#[120]⟩, .int .i64 by_] rfl rfl (two_new w5 _ _ _) (by simp [Value.oneCell']) (by decide) (by unfold maxLen; omega) (by omega) (by simp; omega) ?_)
    intro gb cap w8 hown8 hgrow8 hplace8
    have hvb : ∀ j, (Value.slice na f.arrays.length nc).ownBlock = some j → w2.heap.size ≤ j ∧ j < w3.heap.size := fun j hj => ownsRow_lt HCP.out.arrs hj
    have hBA : Below w5.heap.size w5 (w5.alloc (.cells #[.string ⟨#[120]⟩, .int .i64 by_] 68)) := (Below.refl _ _).alloc (Nat.le_refl _) _
    have hg8 : w8.heap[w3.heap.size]? = some (.cells #[.string f.name, .int .i64 f.regs, .slice na f.arrays.length nc, .slice ma f.blocks.length mc] 25) := (hgrow8.block _ (by simp; omega) (fun e => by have := (hvb _ e.symm).2; omega)).trans ((hBA.block _ (by omega)).trans HG6.out)
    have HG8 := Lib.hid hg8
    have q9 : w8.cell? ⟨w3.heap.size, 2, none⟩ = some (.slice na f.arrays.length nc) := cell_heap HG8.out 2
    have z9 : w8.frozen? ⟨w3.heap.size, 2, none⟩ = false := frozen_heap HG8.out 2
    have HB8 : Hid (Below W.heap.size W w8) := (below_next HBW6.out hBA).grown hgrow8 (by simp; omega) (fun j hj => by have := (hvb j hj).1; have := HB2.out.size; omega)
    have HA8 := Lib.hid hown8
    have HK8 : Hid (BlkOwn w2.heap.size 52 60 w8 (.slice ma f.blocks.length mc) l) :=
      HC6.out.blks.moveNe (b := (Value.slice na f.arrays.length nc).ownBlock) (fun k hk hn => (hgrow8.block k (by simp; omega) (fun e => hn e.symm)).trans (hBA.block k hk)) (apart_sym HC6.out.apart) (fun p hp => apart_sym (HC6.out.codes p hp))
    clear hown8 hgrow8 hplace8 hvb hBA hg8
    obtain ⟨X, hX⟩ : ∃ X : World, w8.setCell ⟨w3.heap.size, 2, none⟩ (.slice (some ⟨gb, 0, none⟩) (f.arrays.length + 1) cap) = X := ⟨_, rfl⟩
    have HXG : Hid (X.heap[w3.heap.size]? = some (.cells #[.string f.name, .int .i64 f.regs, .slice (some ⟨gb, 0, none⟩) (f.arrays.length + 1) cap, .slice ma f.blocks.length mc] 25)) := by show _ = _; rw [← hX, setCell_heap HG8.out]; simp
    have HBX : Hid (Below W.heap.size W X) := by show Below _ _ _; rw [← hX]; exact HB8.out.setCell (by show W.heap.size ≤ w3.heap.size; omega) _
    have HGX : Hid (FnAt X { f with arrays := f.arrays ++ [(⟨#[120]⟩, by_)] } (some ⟨gb, 0, none⟩) ma) := by
      have mv : ∀ {e : TypeId} {size : Nat} {v : Value} {n : Nat} {xs : List Value}, 25 ≠ e → w8.ownsRow w2.heap.size e size v n xs → X.ownsRow w2.heap.size e size v n xs := fun hT hr =>
        ownsRow_move hr (fun k hk _ => by rw [← hX]; exact Below.heap_setCell _ _ _ _ (by rintro rfl; exact ownsRow_ne hr HG8.out hT hk))
      have h1 : X.ownsRow w2.heap.size 68 2 (.slice (some ⟨gb, 0, none⟩) (f.arrays.length + 1) cap) (f.arrays ++ [((⟨#[120]⟩ : ByteArray), by_)]).length ((f.arrays ++ [((⟨#[120]⟩ : ByteArray), by_)]).flatMap arrOne) := by
        rw [flat_snoc, List.length_append]
        exact mv (by decide) HA8.out
      obtain ⟨a1, c1, e1, k1⟩ := arrs_own h1 (by simp; omega) (fun p hp => by
        rcases List.mem_append.1 hp with hp | hp
        · exact HF.out.arrays.sizes p hp
        · obtain rfl : p = (⟨#[120]⟩, by_) := by simpa using hp
          show (1 : Nat) ≤ _; omega)
      have h2 : BlkOwn w2.heap.size 52 60 X (.slice ma f.blocks.length mc) l := { HK8.out with row := mv (by decide) HK8.out.row, code := fun p hp => mv (by decide) (HK8.out.code p hp) }
      obtain ⟨a2, c2, e2, k2, _⟩ := h2.toRow.blks (by rw [HLL.out]; exact HF.out.blocks.fits)
      injection e1 with e1
      injection e2 with e2
      subst e1 e2
      rw [HC6.out.eq] at k2
      exact ⟨k1, k2, HF.out.regs, HF.out.name⟩
    have HEQ : Hid (∀ W', Below X.heap.size X W' → Calls Try.prog 27 #[fnVal f.name f.regs aa f.arrays.length ac ba f.blocks.length bc, fnVal f.name f.regs (some ⟨gb, 0, none⟩) (f.arrays.length + 1) cap ma f.blocks.length mc] W' fun e w' => e = .returned (.bool false) ∧ Below W'.heap.size W' w') := fun W' h => by
      have := eq_differs f { f with arrays := f.arrays ++ [(⟨#[120]⟩, by_)] } W' aa ba (some ⟨gb, 0, none⟩) ma ac bc cap mc (HFW.out.below (below_next HBX.out h)) (HGX.out.below h) HNE.out
      show Calls _ _ _ _ _
      simpa using this
    have HEQ' : Hid (∀ W', Below X.heap.size X W' → Calls Try.prog 27 #[fnVal f.name f.regs (some ⟨gb, 0, none⟩) (f.arrays.length + 1) cap ma f.blocks.length mc, fnVal f.name f.regs aa f.arrays.length ac ba f.blocks.length bc] W' fun e w' => e = .returned (.bool false) ∧ Below W'.heap.size W' w') := fun W' h => by
      have := eq_differs' f { f with arrays := f.arrays ++ [(⟨#[120]⟩, by_)] } W' aa ba (some ⟨gb, 0, none⟩) ma ac bc cap mc (HFW.out.below (below_next HBX.out h)) (HGX.out.below h) HNE.out
      show Calls _ _ _ _ _
      simpa using this
    have y0' := (HBX.out.cell (p := ⟨w.heap.size, 0, none⟩) hWs).trans (cell_heap HX.out 0)
    have y1' := (HBX.out.cell (p := ⟨w.heap.size, 1, none⟩) hWs).trans (cell_heap HX.out 1)
    have y2' := (HBX.out.cell (p := ⟨w.heap.size, 2, none⟩) hWs).trans (cell_heap HX.out 2)
    have y3' := (HBX.out.cell (p := ⟨w.heap.size, 3, none⟩) hWs).trans (cell_heap HX.out 3)
    simp only [List.getElem?_toArray, List.getElem?_cons_zero, List.getElem?_cons_succ] at y0' y1' y2' y3'
    obtain ⟨k0, k1, k2, k3⟩ := fn_cells' HXG.out (Below.refl _ _)
    go_wp2_with fail
    clear hX q9 z9 y0' y1' y2' y3' k0 k1 k2 k3 g0 g1 g2 g3
    clear y0 y1 y2 y3
    refine (HEQ.out X (Below.refl _ _)).mono ?_
    rintro e w6 ⟨rfl, hB7⟩
    have HB7 := Lib.hid hB7
    clear hB7
    obtain ⟨y0, y1, y2, y3⟩ := fn_cells' HX.out (below_next HBX.out HB7.out)
    obtain ⟨g0, g1, g2, g3⟩ := fn_cells' HXG.out HB7.out
    go_wp2_with fail
    refine (HEQ'.out w6 HB7.out).mono ?_
    rintro e w7 ⟨rfl, hB8⟩
    have HB8 := Lib.hid (below_next HBX.out (below_next HB7.out hB8))
    clear hB8
    go_wp2_with fail
    go_ret
    exact ⟨rfl, HBW.out.trans (HB8.out.mono (by omega))⟩
  · skip
    by_cases hzl : f.blocks.length = 0
    · have hzl' : ((f.blocks.length : Int) == 0) = true := by simp [hzl]
      clear hzl
      go_wp2_with fail
      go_ret
      exact ⟨rfl, HBW.out.trans (HBW6.out.mono (by omega))⟩
    have hzl' : ((f.blocks.length : Int) == 0) = false := beq_eq_false_iff_ne.2 (by omega)
    have hpos : 0 < f.blocks.length := by omega
    have hposi : (0 : Int) < (f.blocks.length : Int) := by omega
    obtain ⟨kb, hkb⟩ : ∃ kb : Nat, kk % (f.blocks.length : Int) = (kb : Int) := ⟨(kk % (f.blocks.length : Int)).toNat, by have := Int.emod_nonneg kk (b := (f.blocks.length : Int)) (by omega); omega⟩
    have hkbt : kk.tmod (f.blocks.length : Int) = (kb : Int) := by rw [Int.tmod_eq_emod_of_nonneg hk0]; exact hkb
    have hkl : kb < f.blocks.length := by have := Int.emod_lt_of_pos kk hposi; omega
    have hk2 : (0 : Int) ≤ (kb : Int) := by omega
    have hk3 : (kb : Int) < (f.blocks.length : Int) := by omega
    obtain ⟨p, hp⟩ : ∃ p, l[kb]? = some p := ⟨_, List.getElem?_eq_getElem (by rw [HLL.out]; exact hkl)⟩
    have HP := Lib.hid hp
    have hpb : f.blocks[kb]? = some p.blk := by rw [← HC6.out.eq, List.getElem?_map, hp]; rfl
    have HPB := Lib.hid hpb
    have hrow := HCP.out.blks.row
    rw [HLL.out] at hrow
    obtain ⟨gb0, rfl, hlo, hhi, hcap⟩ := own_some hrow hpos
    have hne0 : w3.heap.size ≠ gb0 := by omega
    have hne1 : gb0 ≠ w3.heap.size := by omega
    have hnew : w.heap.size ≠ gb0 := by have := HB2.out.size; omega
    have HBO := Lib.hid HC6.out.blks
    have hkey : ∀ o u, o < 5 → p.cells[o]? = some u → w5.cell? ⟨gb0, kb * 5 + o, none⟩ = some u := fun o u ho hu => own_cell HBO.out.row ((flat_get BlkP.cells_len hp ho).trans hu)
    have c0 := hkey 0 _ (by omega) rfl
    have c1 := hkey 1 _ (by omega) rfl
    have c2 := hkey 2 _ (by omega) rfl
    have c3 := hkey 3 _ (by omega) rfl
    have c4 := hkey 4 _ (by omega) rfl
    rw [Nat.add_zero] at c0
    clear hp hpb hrow hkey
    go_wp2_with fail
    go_quiet (fail)
    generalize hV : World.drewN _ _ = V
    have HBV : Hid (Below w5.heap.size w5 V) := by show Below _ _ _; rw [← hV]; exact below_drew ⟨_, rfl⟩
    clear hV
    have h5V := HBV.out.size
    have HBWV := Lib.hid (below_next HBW6.out HBV.out)
    have HCV := Lib.hid (HC6.out.keep HBV.out)
    have HGV := Lib.hid ((HBV.out.block _ (by omega)).trans HG6.out)
    have d0 := cell_below HBV.out c0
    have d1 := cell_below HBV.out c1
    have d2 := cell_below HBV.out c2
    have d3 := cell_below HBV.out c3
    have d4 := cell_below HBV.out c4
    clear c0 c1 c2 c3 c4 hkb hkbt g0 g1 g2 g3
    have hpw := HBO.out.wf p (List.mem_of_getElem? HP.out)
    obtain ⟨hr1, hr2⟩ := wrap_ne hpw.to hb0 hb1 HBY.out
    obtain ⟨tv, htv⟩ : ∃ tv, wrap64 (p.blk.to + by_) = tv := ⟨_, rfl⟩
    rw [htv] at hr1 hr2
    have HNE : Hid (¬ f = { f with blocks := f.blocks.set kb { p.blk with to := tv } }) := fun e => by
      have h1 : f.blocks = f.blocks.set kb { p.blk with to := tv } := congrArg Fn.blocks e
      have h2 := HPB.out
      rw [h1, List.getElem?_set_self (by omega)] at h2
      exact hr2 (congrArg Blk.to (Option.some.inj h2))
    have hz3 : V.frozen? ⟨gb0, kb * 5 + 3, none⟩ = false := row_free HCV.out.blks.row _
    obtain ⟨X, hX⟩ : ∃ X : World, V.setCell ⟨gb0, kb * 5 + 3, none⟩ (.int .i64 tv) = X := ⟨_, rfl⟩
    have HXO : Hid (BlkOwn w2.heap.size 52 60 X (.slice (some ⟨gb0, 0, none⟩) f.blocks.length mc) (l.set kb ⟨{ p.blk with to := tv }, p.a, p.c⟩)) := by
      show BlkOwn _ _ _ _ _ _
      rw [← hX]
      exact HCV.out.blks.setBlk (o := 3) HLL.out HP.out (by omega) rfl ⟨hpw.k0, hpw.k1, hpw.x, hr1, hpw.els⟩ (by unfold BlkP.cells; simp)
    have HXG : Hid (X.heap[w3.heap.size]? = some (.cells #[.string f.name, .int .i64 f.regs, .slice na f.arrays.length nc, .slice (some ⟨gb0, 0, none⟩) f.blocks.length mc] 25)) := by show _ = _; rw [← hX]; exact (Below.heap_setCell _ _ _ _ hne0).trans HGV.out
    have HBX : Hid (Below W.heap.size W X) := by show Below _ _ _; rw [← hX]; exact HBWV.out.setCell (by show W.heap.size ≤ gb0; have := HB2.out.size; omega) _
    have HXA : Hid (X.ownsRow w2.heap.size 68 2 (.slice na f.arrays.length nc) f.arrays.length (f.arrays.flatMap arrOne)) := by
      show World.ownsRow _ _ _ _ _ _ _
      refine ownsRow_move HCV.out.arrs (fun k hk _ => ?_)
      rw [← hX]
      refine Below.heap_setCell _ _ _ _ (fun e => ?_)
      have e : k = gb0 := e
      rcases HCV.out.apart with e1 | e1
      · rw [hk] at e1; cases e1
      · exact e1 (by rw [hk, e]; rfl)
    clear hpw hr1 hr2
    have HGX : Hid (FnAt X { f with blocks := f.blocks.set kb { p.blk with to := tv } } na (some ⟨gb0, 0, none⟩)) := by
      obtain ⟨a1, c1, e1, k1⟩ := arrs_own HXA.out HF.out.arrays.fits HF.out.arrays.sizes
      obtain ⟨a2, c2, e2, k2, _⟩ := HXO.out.toRow.blks (by simp [HLL.out]; omega)
      injection e1 with e1
      injection e2 with e2
      subst e1 e2
      have he : (l.set kb ⟨{ p.blk with to := tv }, p.a, p.c⟩).map (fun q : BlkP => q.blk) = f.blocks.set kb { p.blk with to := tv } := by rw [List.map_set, HC6.out.eq]
      rw [he] at k2
      exact ⟨k1, k2, HF.out.regs, HF.out.name⟩
    have HEQ : Hid (∀ W', Below X.heap.size X W' → Calls Try.prog 27 #[fnVal f.name f.regs aa f.arrays.length ac ba f.blocks.length bc, fnVal f.name f.regs na f.arrays.length nc (some ⟨gb0, 0, none⟩) f.blocks.length mc] W' fun e w' => e = .returned (.bool false) ∧ Below W'.heap.size W' w') := fun W' h => by
      have := eq_differs f { f with blocks := f.blocks.set kb { p.blk with to := tv } } W' aa ba na (some ⟨gb0, 0, none⟩) ac bc nc mc (HFW.out.below (below_next HBX.out h)) (HGX.out.below h) HNE.out
      show Calls _ _ _ _ _
      simpa using this
    have HEQ' : Hid (∀ W', Below X.heap.size X W' → Calls Try.prog 27 #[fnVal f.name f.regs na f.arrays.length nc (some ⟨gb0, 0, none⟩) f.blocks.length mc, fnVal f.name f.regs aa f.arrays.length ac ba f.blocks.length bc] W' fun e w' => e = .returned (.bool false) ∧ Below W'.heap.size W' w') := fun W' h => by
      have := eq_differs' f { f with blocks := f.blocks.set kb { p.blk with to := tv } } W' aa ba na (some ⟨gb0, 0, none⟩) ac bc nc mc (HFW.out.below (below_next HBX.out h)) (HGX.out.below h) HNE.out
      show Calls _ _ _ _ _
      simpa using this
    have y0' := (HBX.out.cell (p := ⟨w.heap.size, 0, none⟩) hWs).trans (cell_heap HX.out 0)
    have y1' := (HBX.out.cell (p := ⟨w.heap.size, 1, none⟩) hWs).trans (cell_heap HX.out 1)
    have y2' := (HBX.out.cell (p := ⟨w.heap.size, 2, none⟩) hWs).trans (cell_heap HX.out 2)
    have y3' := (HBX.out.cell (p := ⟨w.heap.size, 3, none⟩) hWs).trans (cell_heap HX.out 3)
    simp only [List.getElem?_toArray, List.getElem?_cons_zero, List.getElem?_cons_succ] at y0' y1' y2' y3'
    obtain ⟨k0, k1, k2, k3⟩ := fn_cells' HXG.out (Below.refl _ _)
    go_wp2_with fail
    clear hX htv hz3 y0' y1' y2' y3' k0 k1 k2 k3 d0 d1 d2 d3 d4
    clear y0 y1 y2 y3
    refine (HEQ.out X (Below.refl _ _)).mono ?_
    rintro e w6 ⟨rfl, hB7⟩
    have HB7 := Lib.hid hB7
    clear hB7
    obtain ⟨y0, y1, y2, y3⟩ := fn_cells' HX.out (below_next HBX.out HB7.out)
    obtain ⟨g0, g1, g2, g3⟩ := fn_cells' HXG.out HB7.out
    go_wp2_with fail
    refine (HEQ'.out w6 HB7.out).mono ?_
    rintro e w7 ⟨rfl, hB8⟩
    have HB8 := Lib.hid (below_next HBX.out (below_next HB7.out hB8))
    clear hB8
    go_wp2_with fail
    go_ret
    exact ⟨rfl, HBW.out.trans (HB8.out.mono (by omega))⟩
  · skip
    by_cases hzl : f.blocks.length = 0
    · have hzl' : ((f.blocks.length : Int) == 0) = true := by simp [hzl]
      clear hzl
      go_wp2_with fail
      go_ret
      exact ⟨rfl, HBW.out.trans (HBW6.out.mono (by omega))⟩
    have hzl' : ((f.blocks.length : Int) == 0) = false := beq_eq_false_iff_ne.2 (by omega)
    have hpos : 0 < f.blocks.length := by omega
    have hposi : (0 : Int) < (f.blocks.length : Int) := by omega
    obtain ⟨kb, hkb⟩ : ∃ kb : Nat, kk % (f.blocks.length : Int) = (kb : Int) := ⟨(kk % (f.blocks.length : Int)).toNat, by have := Int.emod_nonneg kk (b := (f.blocks.length : Int)) (by omega); omega⟩
    have hkbt : kk.tmod (f.blocks.length : Int) = (kb : Int) := by rw [Int.tmod_eq_emod_of_nonneg hk0]; exact hkb
    have hkl : kb < f.blocks.length := by have := Int.emod_lt_of_pos kk hposi; omega
    have hk2 : (0 : Int) ≤ (kb : Int) := by omega
    have hk3 : (kb : Int) < (f.blocks.length : Int) := by omega
    obtain ⟨p, hp⟩ : ∃ p, l[kb]? = some p := ⟨_, List.getElem?_eq_getElem (by rw [HLL.out]; exact hkl)⟩
    have HP := Lib.hid hp
    have hpb : f.blocks[kb]? = some p.blk := by rw [← HC6.out.eq, List.getElem?_map, hp]; rfl
    have HPB := Lib.hid hpb
    have hrow := HCP.out.blks.row
    rw [HLL.out] at hrow
    obtain ⟨gb0, rfl, hlo, hhi, hcap⟩ := own_some hrow hpos
    have hne0 : w3.heap.size ≠ gb0 := by omega
    have hne1 : gb0 ≠ w3.heap.size := by omega
    have hnew : w.heap.size ≠ gb0 := by have := HB2.out.size; omega
    have HBO := Lib.hid HC6.out.blks
    have hkey : ∀ o u, o < 5 → p.cells[o]? = some u → w5.cell? ⟨gb0, kb * 5 + o, none⟩ = some u := fun o u ho hu => own_cell HBO.out.row ((flat_get BlkP.cells_len hp ho).trans hu)
    have c0 := hkey 0 _ (by omega) rfl
    have c1 := hkey 1 _ (by omega) rfl
    have c2 := hkey 2 _ (by omega) rfl
    have c3 := hkey 3 _ (by omega) rfl
    have c4 := hkey 4 _ (by omega) rfl
    rw [Nat.add_zero] at c0
    clear hp hpb hrow hkey
    go_wp2_with fail
    go_quiet (fail)
    generalize hV : World.drewN _ _ = V
    have HBV : Hid (Below w5.heap.size w5 V) := by show Below _ _ _; rw [← hV]; exact below_drew ⟨_, rfl⟩
    clear hV
    have h5V := HBV.out.size
    have HBWV := Lib.hid (below_next HBW6.out HBV.out)
    have HCV := Lib.hid (HC6.out.keep HBV.out)
    have HGV := Lib.hid ((HBV.out.block _ (by omega)).trans HG6.out)
    have d0 := cell_below HBV.out c0
    have d1 := cell_below HBV.out c1
    have d2 := cell_below HBV.out c2
    have d3 := cell_below HBV.out c3
    have d4 := cell_below HBV.out c4
    clear c0 c1 c2 c3 c4 hkb hkbt g0 g1 g2 g3
    have hpm := List.mem_of_getElem? HP.out
    have hcl := HSM.out.2 p.blk (List.mem_of_getElem? HPB.out)
    have HNE : Hid (¬ f = { f with blocks := f.blocks.set kb { p.blk with code := p.blk.code ++ [⟨0, 0, 0, 0, 0, ⟨#[]⟩⟩] } }) := fun e => by
      have h1 : f.blocks = f.blocks.set kb { p.blk with code := p.blk.code ++ [⟨0, 0, 0, 0, 0, ⟨#[]⟩⟩] } := congrArg Fn.blocks e
      have h2 := HPB.out
      rw [h1, List.getElem?_set_self (by omega)] at h2
      have h3 := one_more (congrArg Blk.code (Option.some.inj h2)).symm
      cases h3
    have HCD := Lib.hid (HCV.out.blks.code p hpm)
    have hpl : ∀ j, p.code.ownBlock = some j → w2.heap.size ≤ j ∧ j < w3.heap.size := fun j hj => ownsRow_lt (HCP.out.blks.code p hpm) hj
    have HPL := Lib.hid hpl
    have hpg : p.code.ownBlock ≠ some gb0 := fun e => by
      rcases HCV.out.blks.apart p hpm with e1 | e1
      · rw [e] at e1; cases e1
      · exact e1 e.symm
    have HPG := Lib.hid hpg
    clear hpl hpg hpm
    unfold BlkP.code at HCD
    obtain ⟨i0, hi, hz0, hz1, hz2⟩ := info_parts Try.infoIns
    go_wp2_with (at_builtin; refine wpList_append_row _ rfl (.tmp 61) (.tmp 63) 50 rfl w2.heap.size 60 i0 _ 6 56 Try.underlying50 hi hz0 hz1 hz2 rfl (by decide) (.slice p.a p.blk.code.length p.c) p.blk.code.length (codeCells p.blk.code) rfl (HCD.out.alloc _) ⟨V.heap.size, 0, none⟩ 1 1 (Ins.cells ⟨0, 0, 0, 0, 0, ⟨#[]⟩⟩) rfl rfl (ins_new V ⟨0, 0, 0, 0, 0, ⟨#[]⟩⟩ _) (Ins.one _) (by decide) (by unfold maxLen; omega) (by omega) (by simp; omega) ?_)
    intro gb cap w8 hown8 hgrow8 hplace8
    have hgrow8' : (V.alloc (.cells #[.int .u8 0, .int .i64 0, .int .i64 0, .int .i64 0, .int .i64 0, .string ⟨#[]⟩] 60)).grownBy w8 p.code.ownBlock := hgrow8
    have hplace8' : p.code.ownBlock = some gb ∨ V.heap.size + 1 ≤ gb := hplace8
    have hBA : Below V.heap.size V (V.alloc (.cells #[.int .u8 0, .int .i64 0, .int .i64 0, .int .i64 0, .int .i64 0, .string ⟨#[]⟩] 60)) := (Below.refl _ _).alloc (Nat.le_refl _) _
    have old8 : ∀ j, j < V.heap.size → p.code.ownBlock ≠ some j → w8.heap[j]? = V.heap[j]? := fun j hj hn => (hgrow8'.block j (by simp; omega) (fun e => hn e.symm)).trans (hBA.block j hj)
    have HO8 := Lib.hid old8
    have q9 : w8.cell? ⟨gb0, kb * 5, none⟩ = some (.slice p.a p.blk.code.length p.c) := (World.cell?_of_block (a := ⟨gb0, kb * 5, none⟩) (HO8.out gb0 (by omega) HPG.out)).trans d0
    have z9 : w8.frozen? ⟨gb0, kb * 5, none⟩ = false := row_free (ownsRow_move HCV.out.blks.row (fun k hk hl => HO8.out k hl (by cases hk; exact HPG.out))) _
    have HB8 : Hid (Below W.heap.size W w8) := (below_next HBWV.out hBA).grown hgrow8' (by simp; omega) (fun j hj => by have := (HPL.out j hj).1; have := HB2.out.size; omega)
    obtain ⟨X, hX⟩ : ∃ X : World, w8.setCell ⟨gb0, kb * 5, none⟩ (.slice (some ⟨gb, 0, none⟩) (p.blk.code.length + 1) cap) = X := ⟨_, rfl⟩
    have HXO : Hid (BlkOwn w2.heap.size 52 60 X (.slice (some ⟨gb0, 0, none⟩) f.blocks.length mc) (l.set kb ⟨{ p.blk with code := p.blk.code ++ [⟨0, 0, 0, 0, 0, ⟨#[]⟩⟩] }, some ⟨gb, 0, none⟩, cap⟩)) := by
      show BlkOwn _ _ _ _ _ _
      rw [← hX]
      exact HCV.out.blks.addIns HLL.out HP.out hBA ⟨by decide, by decide, ⟨by decide, by decide⟩, ⟨by decide, by decide⟩, ⟨by decide, by decide⟩, ⟨by decide, by decide⟩, by decide⟩ (by omega) hgrow8' hown8 (by simpa using hplace8')
    have HXG : Hid (X.heap[w3.heap.size]? = some (.cells #[.string f.name, .int .i64 f.regs, .slice na f.arrays.length nc, .slice (some ⟨gb0, 0, none⟩) f.blocks.length mc] 25)) := by show _ = _; rw [← hX]; exact (Below.heap_setCell _ _ _ _ hne0).trans ((HO8.out _ (by omega) (fun e => by have := (HPL.out _ e).2; omega)).trans HGV.out)
    have HBX : Hid (Below W.heap.size W X) := by show Below _ _ _; rw [← hX]; exact HB8.out.setCell (by show W.heap.size ≤ gb0; have := HB2.out.size; omega) _
    have HXA : Hid (X.ownsRow w2.heap.size 68 2 (.slice na f.arrays.length nc) f.arrays.length (f.arrays.flatMap arrOne)) := by
      show World.ownsRow _ _ _ _ _ _ _
      refine ownsRow_move HCV.out.arrs (fun k hk hl => ?_)
      rw [← hX]
      refine (Below.heap_setCell _ _ _ _ (fun e => ?_)).trans (HO8.out k hl (fun e => ?_))
      · have e : k = gb0 := e
        rcases HCV.out.apart with e1 | e1
        · rw [hk] at e1; cases e1
        · exact e1 (by rw [hk, e]; rfl)
      · rcases HCV.out.codes p (List.mem_of_getElem? HP.out) with e1 | e1
        · rw [hk] at e1; cases e1
        · exact e1 (by rw [hk, e])
    clear hown8 hgrow8 hplace8 hgrow8' hplace8' hBA old8
    have HGX : Hid (FnAt X { f with blocks := f.blocks.set kb { p.blk with code := p.blk.code ++ [⟨0, 0, 0, 0, 0, ⟨#[]⟩⟩] } } na (some ⟨gb0, 0, none⟩)) := by
      obtain ⟨a1, c1, e1, k1⟩ := arrs_own HXA.out HF.out.arrays.fits HF.out.arrays.sizes
      obtain ⟨a2, c2, e2, k2, _⟩ := HXO.out.toRow.blks (by simp [HLL.out]; omega)
      injection e1 with e1
      injection e2 with e2
      subst e1 e2
      have he : (l.set kb ⟨{ p.blk with code := p.blk.code ++ [⟨0, 0, 0, 0, 0, ⟨#[]⟩⟩] }, some ⟨gb, 0, none⟩, cap⟩).map (fun q : BlkP => q.blk) = f.blocks.set kb { p.blk with code := p.blk.code ++ [⟨0, 0, 0, 0, 0, ⟨#[]⟩⟩] } := by rw [List.map_set, HC6.out.eq]
      rw [he] at k2
      exact ⟨k1, k2, HF.out.regs, HF.out.name⟩
    have HEQ : Hid (∀ W', Below X.heap.size X W' → Calls Try.prog 27 #[fnVal f.name f.regs aa f.arrays.length ac ba f.blocks.length bc, fnVal f.name f.regs na f.arrays.length nc (some ⟨gb0, 0, none⟩) f.blocks.length mc] W' fun e w' => e = .returned (.bool false) ∧ Below W'.heap.size W' w') := fun W' h => by
      have := eq_differs f { f with blocks := f.blocks.set kb { p.blk with code := p.blk.code ++ [⟨0, 0, 0, 0, 0, ⟨#[]⟩⟩] } } W' aa ba na (some ⟨gb0, 0, none⟩) ac bc nc mc (HFW.out.below (below_next HBX.out h)) (HGX.out.below h) HNE.out
      show Calls _ _ _ _ _
      simpa using this
    have HEQ' : Hid (∀ W', Below X.heap.size X W' → Calls Try.prog 27 #[fnVal f.name f.regs na f.arrays.length nc (some ⟨gb0, 0, none⟩) f.blocks.length mc, fnVal f.name f.regs aa f.arrays.length ac ba f.blocks.length bc] W' fun e w' => e = .returned (.bool false) ∧ Below W'.heap.size W' w') := fun W' h => by
      have := eq_differs' f { f with blocks := f.blocks.set kb { p.blk with code := p.blk.code ++ [⟨0, 0, 0, 0, 0, ⟨#[]⟩⟩] } } W' aa ba na (some ⟨gb0, 0, none⟩) ac bc nc mc (HFW.out.below (below_next HBX.out h)) (HGX.out.below h) HNE.out
      show Calls _ _ _ _ _
      simpa using this
    have y0' := (HBX.out.cell (p := ⟨w.heap.size, 0, none⟩) hWs).trans (cell_heap HX.out 0)
    have y1' := (HBX.out.cell (p := ⟨w.heap.size, 1, none⟩) hWs).trans (cell_heap HX.out 1)
    have y2' := (HBX.out.cell (p := ⟨w.heap.size, 2, none⟩) hWs).trans (cell_heap HX.out 2)
    have y3' := (HBX.out.cell (p := ⟨w.heap.size, 3, none⟩) hWs).trans (cell_heap HX.out 3)
    simp only [List.getElem?_toArray, List.getElem?_cons_zero, List.getElem?_cons_succ] at y0' y1' y2' y3'
    obtain ⟨k0, k1, k2, k3⟩ := fn_cells' HXG.out (Below.refl _ _)
    go_wp2_with fail
    clear hX q9 z9 y0' y1' y2' y3' k0 k1 k2 k3 d0 d1 d2 d3 d4
    clear y0 y1 y2 y3
    refine (HEQ.out X (Below.refl _ _)).mono ?_
    rintro e w6 ⟨rfl, hB7⟩
    have HB7 := Lib.hid hB7
    clear hB7
    obtain ⟨y0, y1, y2, y3⟩ := fn_cells' HX.out (below_next HBX.out HB7.out)
    obtain ⟨g0, g1, g2, g3⟩ := fn_cells' HXG.out HB7.out
    go_wp2_with fail
    refine (HEQ'.out w6 HB7.out).mono ?_
    rintro e w7 ⟨rfl, hB8⟩
    have HB8 := Lib.hid (below_next HBX.out (below_next HB7.out hB8))
    clear hB8
    go_wp2_with fail
    go_ret
    exact ⟨rfl, HBW.out.trans (HB8.out.mono (by omega))⟩
  · skip
    by_cases hzl : f.blocks.length = 0
    · have hzl' : ((f.blocks.length : Int) == 0) = true := by simp [hzl]
      clear hzl
      go_wp2_with fail
      go_ret
      exact ⟨rfl, HBW.out.trans (HBW6.out.mono (by omega))⟩
    have hzl' : ((f.blocks.length : Int) == 0) = false := beq_eq_false_iff_ne.2 (by omega)
    have hpos : 0 < f.blocks.length := by omega
    have hposi : (0 : Int) < (f.blocks.length : Int) := by omega
    obtain ⟨kb, hkb⟩ : ∃ kb : Nat, kk % (f.blocks.length : Int) = (kb : Int) := ⟨(kk % (f.blocks.length : Int)).toNat, by have := Int.emod_nonneg kk (b := (f.blocks.length : Int)) (by omega); omega⟩
    have hkbt : kk.tmod (f.blocks.length : Int) = (kb : Int) := by rw [Int.tmod_eq_emod_of_nonneg hk0]; exact hkb
    have hkl : kb < f.blocks.length := by have := Int.emod_lt_of_pos kk hposi; omega
    have hk2 : (0 : Int) ≤ (kb : Int) := by omega
    have hk3 : (kb : Int) < (f.blocks.length : Int) := by omega
    obtain ⟨p, hp⟩ : ∃ p, l[kb]? = some p := ⟨_, List.getElem?_eq_getElem (by rw [HLL.out]; exact hkl)⟩
    have HP := Lib.hid hp
    have hpb : f.blocks[kb]? = some p.blk := by rw [← HC6.out.eq, List.getElem?_map, hp]; rfl
    have HPB := Lib.hid hpb
    have hrow := HCP.out.blks.row
    rw [HLL.out] at hrow
    obtain ⟨gb0, rfl, hlo, hhi, hcap⟩ := own_some hrow hpos
    have hne0 : w3.heap.size ≠ gb0 := by omega
    have hne1 : gb0 ≠ w3.heap.size := by omega
    have hnew : w.heap.size ≠ gb0 := by have := HB2.out.size; omega
    have HBO := Lib.hid HC6.out.blks
    have hkey : ∀ o u, o < 5 → p.cells[o]? = some u → w5.cell? ⟨gb0, kb * 5 + o, none⟩ = some u := fun o u ho hu => own_cell HBO.out.row ((flat_get BlkP.cells_len hp ho).trans hu)
    have c0 := hkey 0 _ (by omega) rfl
    have c1 := hkey 1 _ (by omega) rfl
    have c2 := hkey 2 _ (by omega) rfl
    have c3 := hkey 3 _ (by omega) rfl
    have c4 := hkey 4 _ (by omega) rfl
    rw [Nat.add_zero] at c0
    clear hp hpb hrow hkey
    go_wp2_with fail
    go_quiet (fail)
    generalize hV : World.drewN _ _ = V
    have HBV : Hid (Below w5.heap.size w5 V) := by show Below _ _ _; rw [← hV]; exact below_drew ⟨_, rfl⟩
    clear hV
    have h5V := HBV.out.size
    have HBWV := Lib.hid (below_next HBW6.out HBV.out)
    have HCV := Lib.hid (HC6.out.keep HBV.out)
    have HGV := Lib.hid ((HBV.out.block _ (by omega)).trans HG6.out)
    have d0 := cell_below HBV.out c0
    have d1 := cell_below HBV.out c1
    have d2 := cell_below HBV.out c2
    have d3 := cell_below HBV.out c3
    have d4 := cell_below HBV.out c4
    clear c0 c1 c2 c3 c4 hkb hkbt g0 g1 g2 g3
    by_cases hzc : p.blk.code.length = 0
    · have hzc' : ((p.blk.code.length : Int) == 0) = true := by simp [hzc]
      clear hzc
      go_wp2_with fail
      go_ret
      exact ⟨rfl, HBW.out.trans (HBWV.out.mono (by omega))⟩
    have hzc' : ((p.blk.code.length : Int) == 0) = false := beq_eq_false_iff_ne.2 (by omega)
    have hcpos : 0 < p.blk.code.length := by omega
    have hcposi : (0 : Int) < (p.blk.code.length : Int) := by omega
    have hpm := List.mem_of_getElem? HP.out
    have hcl := HSM.out.2 p.blk (List.mem_of_getElem? HPB.out)
    obtain ⟨km, hkm⟩ : ∃ km : Nat, kk % (p.blk.code.length : Int) = (km : Int) := ⟨(kk % (p.blk.code.length : Int)).toNat, by have := Int.emod_nonneg kk (b := (p.blk.code.length : Int)) (by omega); omega⟩
    have hkmt : kk.tmod (p.blk.code.length : Int) = (km : Int) := by rw [Int.tmod_eq_emod_of_nonneg hk0]; exact hkm
    have hml : km < p.blk.code.length := by have := Int.emod_lt_of_pos kk hcposi; omega
    have hm2 : (0 : Int) ≤ (km : Int) := by omega
    have hm3 : (km : Int) < (p.blk.code.length : Int) := by omega
    obtain ⟨i, him⟩ : ∃ i, p.blk.code[km]? = some i := ⟨_, List.getElem?_eq_getElem hml⟩
    have HIM := Lib.hid him
    have hcode := HCV.out.blks.code p hpm
    unfold BlkP.code at hcode
    obtain ⟨cb, hpa, hclo, hchi, _⟩ := own_some hcode hcpos
    have hchi3 : cb < w3.heap.size := by
      have := (ownsRow_lt (HCP.out.blks.code p hpm) (k := cb) (by unfold BlkP.code; rw [hpa]; rfl)).2
      exact this
    rw [hpa] at hcode d0
    have hik : ∀ o u, o < 6 → i.cells[o]? = some u → V.cell? ⟨cb, km * 6 + o, none⟩ = some u := fun o u ho hu => own_cell hcode ((flat_get Ins.cells_len him ho).trans hu)
    have e0 := hik 0 _ (by omega) rfl
    have e1 := hik 1 _ (by omega) rfl
    have e2 := hik 2 _ (by omega) rfl
    have e3 := hik 3 _ (by omega) rfl
    have e4 := hik 4 _ (by omega) rfl
    have e5 := hik 5 _ (by omega) rfl
    have HFZ6 : Hid (∀ j, V.frozen? ⟨cb, j, none⟩ = false) := fun j => row_free hcode j
    have HPA := Lib.hid hpa
    have hiw := HBO.out.iwf p hpm i (List.mem_of_getElem? him)
    have HIW := Lib.hid hiw
    have hsz6 := HSY.out p.blk (List.mem_of_getElem? HPB.out) i (List.mem_of_getElem? him)
    have hdiv : kk / 7 % 4 = 0 ∨ kk / 7 % 4 = 1 ∨ kk / 7 % 4 = 2 ∨ kk / 7 % 4 = 3 := by omega
    have HDIV := Lib.hid hdiv
    have hcg : w3.heap.size ≠ cb := by omega
    rw [Nat.add_zero] at e0
    clear him hcode hik hpa hiw hpm hdiv
    go_wp2_with fail
    go_quiet (fail)
    generalize hV2 : World.drewN _ _ = U
    have HBU : Hid (Below V.heap.size V U) := by show Below _ _ _; rw [← hV2]; exact below_drew ⟨_, rfl⟩
    have HFU : Hid (∀ j, U.frozen? ⟨cb, j, none⟩ = false) := fun j => by rw [← hV2]; exact HFZ6.out j
    clear hV2
    have hVU := HBU.out.size
    have HBWU := Lib.hid (below_next HBWV.out HBU.out)
    have HCU := Lib.hid (HCV.out.keep HBU.out)
    have HGU := Lib.hid ((HBU.out.block _ (by omega)).trans HGV.out)
    have f0 := cell_below HBU.out e0
    have f1 := cell_below HBU.out e1
    have f2 := cell_below HBU.out e2
    have f3 := cell_below HBU.out e3
    have f4 := cell_below HBU.out e4
    have f5 := cell_below HBU.out e5
    clear e0 e1 e2 e3 e4 e5 hkm hkmt d0 d1 d2 d3 d4
    rcases HDIV.out with hd | hd | hd | hd
    · obtain ⟨hr1, hr2⟩ := wrap_ne HIW.out.dst hb0 hb1 HBY.out
      obtain ⟨tv, htv⟩ : ∃ tv, wrap64 (i.dst + by_) = tv := ⟨_, rfl⟩
      rw [htv] at hr1 hr2
      have HNE : Hid (¬ f = { f with blocks := f.blocks.set kb { p.blk with code := p.blk.code.set km { i with dst := tv } } }) := fun e => by
        have h1 : f.blocks = f.blocks.set kb { p.blk with code := p.blk.code.set km { i with dst := tv } } := congrArg Fn.blocks e
        have h2 := HPB.out
        rw [h1, List.getElem?_set_self (by omega)] at h2
        have h3 : p.blk.code.set km { i with dst := tv } = p.blk.code := congrArg Blk.code (Option.some.inj h2)
        have h5 := HIM.out
        rw [← h3, List.getElem?_set_self (by omega)] at h5
        exact hr2 (congrArg Ins.dst (Option.some.inj h5))
      have hz9 : U.frozen? ⟨cb, km * 6 + 1, none⟩ = false := HFU.out _
      obtain ⟨X, hX⟩ : ∃ X : World, U.setCell ⟨cb, km * 6 + 1, none⟩ (.int .i64 tv) = X := ⟨_, rfl⟩
      have HXO : Hid (BlkOwn w2.heap.size 52 60 X (.slice (some ⟨gb0, 0, none⟩) f.blocks.length mc) (l.set kb ⟨{ p.blk with code := p.blk.code.set km { i with dst := tv } }, p.a, p.c⟩)) := by
        show BlkOwn _ _ _ _ _ _
        rw [← hX]
        exact HCU.out.blks.setIns (o := 1) HP.out HIM.out (by omega) ⟨HIW.out.op0, HIW.out.op1, hr1, HIW.out.x, HIW.out.y, HIW.out.imm, HIW.out.sym⟩ (by unfold Ins.cells; simp) HPA.out
      have HXG : Hid (X.heap[w3.heap.size]? = some (.cells #[.string f.name, .int .i64 f.regs, .slice na f.arrays.length nc, .slice (some ⟨gb0, 0, none⟩) f.blocks.length mc] 25)) := by show _ = _; rw [← hX]; exact (Below.heap_setCell _ _ _ _ hcg).trans HGU.out
      have HBX : Hid (Below W.heap.size W X) := by show Below _ _ _; rw [← hX]; exact HBWU.out.setCell (by show W.heap.size ≤ cb; have := HB2.out.size; omega) _
      have HXA : Hid (X.ownsRow w2.heap.size 68 2 (.slice na f.arrays.length nc) f.arrays.length (f.arrays.flatMap arrOne)) := by
        show World.ownsRow _ _ _ _ _ _ _
        refine ownsRow_move HCU.out.arrs (fun k hk _ => ?_)
        rw [← hX]
        refine Below.heap_setCell _ _ _ _ (fun e => ?_)
        have e : k = cb := e
        rcases HCU.out.codes p (List.mem_of_getElem? HP.out) with e1 | e1
        · rw [hk] at e1; cases e1
        · exact e1 (by rw [hk, e]; unfold BlkP.code; rw [HPA.out]; rfl)
      clear hr1 hr2
      have HGX : Hid (FnAt X { f with blocks := f.blocks.set kb { p.blk with code := p.blk.code.set km { i with dst := tv } } } na (some ⟨gb0, 0, none⟩)) := by
        obtain ⟨a1, c1, e1, k1⟩ := arrs_own HXA.out HF.out.arrays.fits HF.out.arrays.sizes
        obtain ⟨a2, c2, e2, k2, _⟩ := HXO.out.toRow.blks (by simp [HLL.out]; omega)
        injection e1 with e1
        injection e2 with e2
        subst e1 e2
        have he : (l.set kb ⟨{ p.blk with code := p.blk.code.set km { i with dst := tv } }, p.a, p.c⟩).map (fun q : BlkP => q.blk) = f.blocks.set kb { p.blk with code := p.blk.code.set km { i with dst := tv } } := by rw [List.map_set, HC6.out.eq]
        rw [he] at k2
        exact ⟨k1, k2, HF.out.regs, HF.out.name⟩
      have HEQ : Hid (∀ W', Below X.heap.size X W' → Calls Try.prog 27 #[fnVal f.name f.regs aa f.arrays.length ac ba f.blocks.length bc, fnVal f.name f.regs na f.arrays.length nc (some ⟨gb0, 0, none⟩) f.blocks.length mc] W' fun e w' => e = .returned (.bool false) ∧ Below W'.heap.size W' w') := fun W' h => by
        have := eq_differs f { f with blocks := f.blocks.set kb { p.blk with code := p.blk.code.set km { i with dst := tv } } } W' aa ba na (some ⟨gb0, 0, none⟩) ac bc nc mc (HFW.out.below (below_next HBX.out h)) (HGX.out.below h) HNE.out
        show Calls _ _ _ _ _
        simpa using this
      have HEQ' : Hid (∀ W', Below X.heap.size X W' → Calls Try.prog 27 #[fnVal f.name f.regs na f.arrays.length nc (some ⟨gb0, 0, none⟩) f.blocks.length mc, fnVal f.name f.regs aa f.arrays.length ac ba f.blocks.length bc] W' fun e w' => e = .returned (.bool false) ∧ Below W'.heap.size W' w') := fun W' h => by
        have := eq_differs' f { f with blocks := f.blocks.set kb { p.blk with code := p.blk.code.set km { i with dst := tv } } } W' aa ba na (some ⟨gb0, 0, none⟩) ac bc nc mc (HFW.out.below (below_next HBX.out h)) (HGX.out.below h) HNE.out
        show Calls _ _ _ _ _
        simpa using this
      have y0' := (HBX.out.cell (p := ⟨w.heap.size, 0, none⟩) hWs).trans (cell_heap HX.out 0)
      have y1' := (HBX.out.cell (p := ⟨w.heap.size, 1, none⟩) hWs).trans (cell_heap HX.out 1)
      have y2' := (HBX.out.cell (p := ⟨w.heap.size, 2, none⟩) hWs).trans (cell_heap HX.out 2)
      have y3' := (HBX.out.cell (p := ⟨w.heap.size, 3, none⟩) hWs).trans (cell_heap HX.out 3)
      simp only [List.getElem?_toArray, List.getElem?_cons_zero, List.getElem?_cons_succ] at y0' y1' y2' y3'
      obtain ⟨k0, k1, k2, k3⟩ := fn_cells' HXG.out (Below.refl _ _)
      go_wp2_with fail
      clear hX htv hz9 y0' y1' y2' y3' k0 k1 k2 k3 f0 f1 f2 f3 f4 f5
      clear y0 y1 y2 y3
      refine (HEQ.out X (Below.refl _ _)).mono ?_
      rintro e w6 ⟨rfl, hB7⟩
      have HB7 := Lib.hid hB7
      clear hB7
      obtain ⟨y0, y1, y2, y3⟩ := fn_cells' HX.out (below_next HBX.out HB7.out)
      obtain ⟨g0, g1, g2, g3⟩ := fn_cells' HXG.out HB7.out
      go_wp2_with fail
      refine (HEQ'.out w6 HB7.out).mono ?_
      rintro e w7 ⟨rfl, hB8⟩
      have HB8 := Lib.hid (below_next HBX.out (below_next HB7.out hB8))
      clear hB8
      go_wp2_with fail
      go_ret
      exact ⟨rfl, HBW.out.trans (HB8.out.mono (by omega))⟩
    · obtain ⟨hr1, hr2⟩ := wrap_ne HIW.out.x hb0 hb1 HBY.out
      obtain ⟨tv, htv⟩ : ∃ tv, wrap64 (i.x + by_) = tv := ⟨_, rfl⟩
      rw [htv] at hr1 hr2
      have HNE : Hid (¬ f = { f with blocks := f.blocks.set kb { p.blk with code := p.blk.code.set km { i with x := tv } } }) := fun e => by
        have h1 : f.blocks = f.blocks.set kb { p.blk with code := p.blk.code.set km { i with x := tv } } := congrArg Fn.blocks e
        have h2 := HPB.out
        rw [h1, List.getElem?_set_self (by omega)] at h2
        have h3 : p.blk.code.set km { i with x := tv } = p.blk.code := congrArg Blk.code (Option.some.inj h2)
        have h5 := HIM.out
        rw [← h3, List.getElem?_set_self (by omega)] at h5
        exact hr2 (congrArg Ins.x (Option.some.inj h5))
      have hz9 : U.frozen? ⟨cb, km * 6 + 2, none⟩ = false := HFU.out _
      obtain ⟨X, hX⟩ : ∃ X : World, U.setCell ⟨cb, km * 6 + 2, none⟩ (.int .i64 tv) = X := ⟨_, rfl⟩
      have HXO : Hid (BlkOwn w2.heap.size 52 60 X (.slice (some ⟨gb0, 0, none⟩) f.blocks.length mc) (l.set kb ⟨{ p.blk with code := p.blk.code.set km { i with x := tv } }, p.a, p.c⟩)) := by
        show BlkOwn _ _ _ _ _ _
        rw [← hX]
        exact HCU.out.blks.setIns (o := 2) HP.out HIM.out (by omega) ⟨HIW.out.op0, HIW.out.op1, HIW.out.dst, hr1, HIW.out.y, HIW.out.imm, HIW.out.sym⟩ (by unfold Ins.cells; simp) HPA.out
      have HXG : Hid (X.heap[w3.heap.size]? = some (.cells #[.string f.name, .int .i64 f.regs, .slice na f.arrays.length nc, .slice (some ⟨gb0, 0, none⟩) f.blocks.length mc] 25)) := by show _ = _; rw [← hX]; exact (Below.heap_setCell _ _ _ _ hcg).trans HGU.out
      have HBX : Hid (Below W.heap.size W X) := by show Below _ _ _; rw [← hX]; exact HBWU.out.setCell (by show W.heap.size ≤ cb; have := HB2.out.size; omega) _
      have HXA : Hid (X.ownsRow w2.heap.size 68 2 (.slice na f.arrays.length nc) f.arrays.length (f.arrays.flatMap arrOne)) := by
        show World.ownsRow _ _ _ _ _ _ _
        refine ownsRow_move HCU.out.arrs (fun k hk _ => ?_)
        rw [← hX]
        refine Below.heap_setCell _ _ _ _ (fun e => ?_)
        have e : k = cb := e
        rcases HCU.out.codes p (List.mem_of_getElem? HP.out) with e1 | e1
        · rw [hk] at e1; cases e1
        · exact e1 (by rw [hk, e]; unfold BlkP.code; rw [HPA.out]; rfl)
      clear hr1 hr2
      have HGX : Hid (FnAt X { f with blocks := f.blocks.set kb { p.blk with code := p.blk.code.set km { i with x := tv } } } na (some ⟨gb0, 0, none⟩)) := by
        obtain ⟨a1, c1, e1, k1⟩ := arrs_own HXA.out HF.out.arrays.fits HF.out.arrays.sizes
        obtain ⟨a2, c2, e2, k2, _⟩ := HXO.out.toRow.blks (by simp [HLL.out]; omega)
        injection e1 with e1
        injection e2 with e2
        subst e1 e2
        have he : (l.set kb ⟨{ p.blk with code := p.blk.code.set km { i with x := tv } }, p.a, p.c⟩).map (fun q : BlkP => q.blk) = f.blocks.set kb { p.blk with code := p.blk.code.set km { i with x := tv } } := by rw [List.map_set, HC6.out.eq]
        rw [he] at k2
        exact ⟨k1, k2, HF.out.regs, HF.out.name⟩
      have HEQ : Hid (∀ W', Below X.heap.size X W' → Calls Try.prog 27 #[fnVal f.name f.regs aa f.arrays.length ac ba f.blocks.length bc, fnVal f.name f.regs na f.arrays.length nc (some ⟨gb0, 0, none⟩) f.blocks.length mc] W' fun e w' => e = .returned (.bool false) ∧ Below W'.heap.size W' w') := fun W' h => by
        have := eq_differs f { f with blocks := f.blocks.set kb { p.blk with code := p.blk.code.set km { i with x := tv } } } W' aa ba na (some ⟨gb0, 0, none⟩) ac bc nc mc (HFW.out.below (below_next HBX.out h)) (HGX.out.below h) HNE.out
        show Calls _ _ _ _ _
        simpa using this
      have HEQ' : Hid (∀ W', Below X.heap.size X W' → Calls Try.prog 27 #[fnVal f.name f.regs na f.arrays.length nc (some ⟨gb0, 0, none⟩) f.blocks.length mc, fnVal f.name f.regs aa f.arrays.length ac ba f.blocks.length bc] W' fun e w' => e = .returned (.bool false) ∧ Below W'.heap.size W' w') := fun W' h => by
        have := eq_differs' f { f with blocks := f.blocks.set kb { p.blk with code := p.blk.code.set km { i with x := tv } } } W' aa ba na (some ⟨gb0, 0, none⟩) ac bc nc mc (HFW.out.below (below_next HBX.out h)) (HGX.out.below h) HNE.out
        show Calls _ _ _ _ _
        simpa using this
      have y0' := (HBX.out.cell (p := ⟨w.heap.size, 0, none⟩) hWs).trans (cell_heap HX.out 0)
      have y1' := (HBX.out.cell (p := ⟨w.heap.size, 1, none⟩) hWs).trans (cell_heap HX.out 1)
      have y2' := (HBX.out.cell (p := ⟨w.heap.size, 2, none⟩) hWs).trans (cell_heap HX.out 2)
      have y3' := (HBX.out.cell (p := ⟨w.heap.size, 3, none⟩) hWs).trans (cell_heap HX.out 3)
      simp only [List.getElem?_toArray, List.getElem?_cons_zero, List.getElem?_cons_succ] at y0' y1' y2' y3'
      obtain ⟨k0, k1, k2, k3⟩ := fn_cells' HXG.out (Below.refl _ _)
      go_wp2_with fail
      clear hX htv hz9 y0' y1' y2' y3' k0 k1 k2 k3 f0 f1 f2 f3 f4 f5
      clear y0 y1 y2 y3
      refine (HEQ.out X (Below.refl _ _)).mono ?_
      rintro e w6 ⟨rfl, hB7⟩
      have HB7 := Lib.hid hB7
      clear hB7
      obtain ⟨y0, y1, y2, y3⟩ := fn_cells' HX.out (below_next HBX.out HB7.out)
      obtain ⟨g0, g1, g2, g3⟩ := fn_cells' HXG.out HB7.out
      go_wp2_with fail
      refine (HEQ'.out w6 HB7.out).mono ?_
      rintro e w7 ⟨rfl, hB8⟩
      have HB8 := Lib.hid (below_next HBX.out (below_next HB7.out hB8))
      clear hB8
      go_wp2_with fail
      go_ret
      exact ⟨rfl, HBW.out.trans (HB8.out.mono (by omega))⟩
    · obtain ⟨hr1, hr2⟩ := wrap_ne HIW.out.imm hb0 hb1 HBY.out
      obtain ⟨tv, htv⟩ : ∃ tv, wrap64 (i.imm + by_) = tv := ⟨_, rfl⟩
      rw [htv] at hr1 hr2
      have HNE : Hid (¬ f = { f with blocks := f.blocks.set kb { p.blk with code := p.blk.code.set km { i with imm := tv } } }) := fun e => by
        have h1 : f.blocks = f.blocks.set kb { p.blk with code := p.blk.code.set km { i with imm := tv } } := congrArg Fn.blocks e
        have h2 := HPB.out
        rw [h1, List.getElem?_set_self (by omega)] at h2
        have h3 : p.blk.code.set km { i with imm := tv } = p.blk.code := congrArg Blk.code (Option.some.inj h2)
        have h5 := HIM.out
        rw [← h3, List.getElem?_set_self (by omega)] at h5
        exact hr2 (congrArg Ins.imm (Option.some.inj h5))
      have hz9 : U.frozen? ⟨cb, km * 6 + 4, none⟩ = false := HFU.out _
      obtain ⟨X, hX⟩ : ∃ X : World, U.setCell ⟨cb, km * 6 + 4, none⟩ (.int .i64 tv) = X := ⟨_, rfl⟩
      have HXO : Hid (BlkOwn w2.heap.size 52 60 X (.slice (some ⟨gb0, 0, none⟩) f.blocks.length mc) (l.set kb ⟨{ p.blk with code := p.blk.code.set km { i with imm := tv } }, p.a, p.c⟩)) := by
        show BlkOwn _ _ _ _ _ _
        rw [← hX]
        exact HCU.out.blks.setIns (o := 4) HP.out HIM.out (by omega) ⟨HIW.out.op0, HIW.out.op1, HIW.out.dst, HIW.out.x, HIW.out.y, hr1, HIW.out.sym⟩ (by unfold Ins.cells; simp) HPA.out
      have HXG : Hid (X.heap[w3.heap.size]? = some (.cells #[.string f.name, .int .i64 f.regs, .slice na f.arrays.length nc, .slice (some ⟨gb0, 0, none⟩) f.blocks.length mc] 25)) := by show _ = _; rw [← hX]; exact (Below.heap_setCell _ _ _ _ hcg).trans HGU.out
      have HBX : Hid (Below W.heap.size W X) := by show Below _ _ _; rw [← hX]; exact HBWU.out.setCell (by show W.heap.size ≤ cb; have := HB2.out.size; omega) _
      have HXA : Hid (X.ownsRow w2.heap.size 68 2 (.slice na f.arrays.length nc) f.arrays.length (f.arrays.flatMap arrOne)) := by
        show World.ownsRow _ _ _ _ _ _ _
        refine ownsRow_move HCU.out.arrs (fun k hk _ => ?_)
        rw [← hX]
        refine Below.heap_setCell _ _ _ _ (fun e => ?_)
        have e : k = cb := e
        rcases HCU.out.codes p (List.mem_of_getElem? HP.out) with e1 | e1
        · rw [hk] at e1; cases e1
        · exact e1 (by rw [hk, e]; unfold BlkP.code; rw [HPA.out]; rfl)
      clear hr1 hr2
      have HGX : Hid (FnAt X { f with blocks := f.blocks.set kb { p.blk with code := p.blk.code.set km { i with imm := tv } } } na (some ⟨gb0, 0, none⟩)) := by
        obtain ⟨a1, c1, e1, k1⟩ := arrs_own HXA.out HF.out.arrays.fits HF.out.arrays.sizes
        obtain ⟨a2, c2, e2, k2, _⟩ := HXO.out.toRow.blks (by simp [HLL.out]; omega)
        injection e1 with e1
        injection e2 with e2
        subst e1 e2
        have he : (l.set kb ⟨{ p.blk with code := p.blk.code.set km { i with imm := tv } }, p.a, p.c⟩).map (fun q : BlkP => q.blk) = f.blocks.set kb { p.blk with code := p.blk.code.set km { i with imm := tv } } := by rw [List.map_set, HC6.out.eq]
        rw [he] at k2
        exact ⟨k1, k2, HF.out.regs, HF.out.name⟩
      have HEQ : Hid (∀ W', Below X.heap.size X W' → Calls Try.prog 27 #[fnVal f.name f.regs aa f.arrays.length ac ba f.blocks.length bc, fnVal f.name f.regs na f.arrays.length nc (some ⟨gb0, 0, none⟩) f.blocks.length mc] W' fun e w' => e = .returned (.bool false) ∧ Below W'.heap.size W' w') := fun W' h => by
        have := eq_differs f { f with blocks := f.blocks.set kb { p.blk with code := p.blk.code.set km { i with imm := tv } } } W' aa ba na (some ⟨gb0, 0, none⟩) ac bc nc mc (HFW.out.below (below_next HBX.out h)) (HGX.out.below h) HNE.out
        show Calls _ _ _ _ _
        simpa using this
      have HEQ' : Hid (∀ W', Below X.heap.size X W' → Calls Try.prog 27 #[fnVal f.name f.regs na f.arrays.length nc (some ⟨gb0, 0, none⟩) f.blocks.length mc, fnVal f.name f.regs aa f.arrays.length ac ba f.blocks.length bc] W' fun e w' => e = .returned (.bool false) ∧ Below W'.heap.size W' w') := fun W' h => by
        have := eq_differs' f { f with blocks := f.blocks.set kb { p.blk with code := p.blk.code.set km { i with imm := tv } } } W' aa ba na (some ⟨gb0, 0, none⟩) ac bc nc mc (HFW.out.below (below_next HBX.out h)) (HGX.out.below h) HNE.out
        show Calls _ _ _ _ _
        simpa using this
      have y0' := (HBX.out.cell (p := ⟨w.heap.size, 0, none⟩) hWs).trans (cell_heap HX.out 0)
      have y1' := (HBX.out.cell (p := ⟨w.heap.size, 1, none⟩) hWs).trans (cell_heap HX.out 1)
      have y2' := (HBX.out.cell (p := ⟨w.heap.size, 2, none⟩) hWs).trans (cell_heap HX.out 2)
      have y3' := (HBX.out.cell (p := ⟨w.heap.size, 3, none⟩) hWs).trans (cell_heap HX.out 3)
      simp only [List.getElem?_toArray, List.getElem?_cons_zero, List.getElem?_cons_succ] at y0' y1' y2' y3'
      obtain ⟨k0, k1, k2, k3⟩ := fn_cells' HXG.out (Below.refl _ _)
      go_wp2_with fail
      clear hX htv hz9 y0' y1' y2' y3' k0 k1 k2 k3 f0 f1 f2 f3 f4 f5
      clear y0 y1 y2 y3
      refine (HEQ.out X (Below.refl _ _)).mono ?_
      rintro e w6 ⟨rfl, hB7⟩
      have HB7 := Lib.hid hB7
      clear hB7
      obtain ⟨y0, y1, y2, y3⟩ := fn_cells' HX.out (below_next HBX.out HB7.out)
      obtain ⟨g0, g1, g2, g3⟩ := fn_cells' HXG.out HB7.out
      go_wp2_with fail
      refine (HEQ'.out w6 HB7.out).mono ?_
      rintro e w7 ⟨rfl, hB8⟩
      have HB8 := Lib.hid (below_next HBX.out (below_next HB7.out hB8))
      clear hB8
      go_wp2_with fail
      go_ret
      exact ⟨rfl, HBW.out.trans (HB8.out.mono (by omega))⟩
    · obtain ⟨tv, htv⟩ : ∃ tv, i.sym ++ ⟨#[120]⟩ = tv := ⟨_, rfl⟩
      have hsv : tv.size = i.sym.size + 1 := by rw [← htv, ByteArray.size_append]; rfl
      have HNE : Hid (¬ f = { f with blocks := f.blocks.set kb { p.blk with code := p.blk.code.set km { i with sym := tv } } }) := fun e => by
        have h1 : f.blocks = f.blocks.set kb { p.blk with code := p.blk.code.set km { i with sym := tv } } := congrArg Fn.blocks e
        have h2 := HPB.out
        rw [h1, List.getElem?_set_self (by omega)] at h2
        have h3 : p.blk.code.set km { i with sym := tv } = p.blk.code := congrArg Blk.code (Option.some.inj h2)
        have h5 := HIM.out
        rw [← h3, List.getElem?_set_self (by omega)] at h5
        exact (by have h6 : tv = i.sym := congrArg Ins.sym (Option.some.inj h5); rw [h6] at hsv; omega)
      have hz9 : U.frozen? ⟨cb, km * 6 + 5, none⟩ = false := HFU.out _
      obtain ⟨X, hX⟩ : ∃ X : World, U.setCell ⟨cb, km * 6 + 5, none⟩ (.string tv) = X := ⟨_, rfl⟩
      have HXO : Hid (BlkOwn w2.heap.size 52 60 X (.slice (some ⟨gb0, 0, none⟩) f.blocks.length mc) (l.set kb ⟨{ p.blk with code := p.blk.code.set km { i with sym := tv } }, p.a, p.c⟩)) := by
        show BlkOwn _ _ _ _ _ _
        rw [← hX]
        exact HCU.out.blks.setIns (o := 5) HP.out HIM.out (by omega) ⟨HIW.out.op0, HIW.out.op1, HIW.out.dst, HIW.out.x, HIW.out.y, HIW.out.imm, by show tv.size ≤ _; omega⟩ (by unfold Ins.cells; simp) HPA.out
      have HXG : Hid (X.heap[w3.heap.size]? = some (.cells #[.string f.name, .int .i64 f.regs, .slice na f.arrays.length nc, .slice (some ⟨gb0, 0, none⟩) f.blocks.length mc] 25)) := by show _ = _; rw [← hX]; exact (Below.heap_setCell _ _ _ _ hcg).trans HGU.out
      have HBX : Hid (Below W.heap.size W X) := by show Below _ _ _; rw [← hX]; exact HBWU.out.setCell (by show W.heap.size ≤ cb; have := HB2.out.size; omega) _
      have HXA : Hid (X.ownsRow w2.heap.size 68 2 (.slice na f.arrays.length nc) f.arrays.length (f.arrays.flatMap arrOne)) := by
        show World.ownsRow _ _ _ _ _ _ _
        refine ownsRow_move HCU.out.arrs (fun k hk _ => ?_)
        rw [← hX]
        refine Below.heap_setCell _ _ _ _ (fun e => ?_)
        have e : k = cb := e
        rcases HCU.out.codes p (List.mem_of_getElem? HP.out) with e1 | e1
        · rw [hk] at e1; cases e1
        · exact e1 (by rw [hk, e]; unfold BlkP.code; rw [HPA.out]; rfl)
      clear hsv
      have HGX : Hid (FnAt X { f with blocks := f.blocks.set kb { p.blk with code := p.blk.code.set km { i with sym := tv } } } na (some ⟨gb0, 0, none⟩)) := by
        obtain ⟨a1, c1, e1, k1⟩ := arrs_own HXA.out HF.out.arrays.fits HF.out.arrays.sizes
        obtain ⟨a2, c2, e2, k2, _⟩ := HXO.out.toRow.blks (by simp [HLL.out]; omega)
        injection e1 with e1
        injection e2 with e2
        subst e1 e2
        have he : (l.set kb ⟨{ p.blk with code := p.blk.code.set km { i with sym := tv } }, p.a, p.c⟩).map (fun q : BlkP => q.blk) = f.blocks.set kb { p.blk with code := p.blk.code.set km { i with sym := tv } } := by rw [List.map_set, HC6.out.eq]
        rw [he] at k2
        exact ⟨k1, k2, HF.out.regs, HF.out.name⟩
      have HEQ : Hid (∀ W', Below X.heap.size X W' → Calls Try.prog 27 #[fnVal f.name f.regs aa f.arrays.length ac ba f.blocks.length bc, fnVal f.name f.regs na f.arrays.length nc (some ⟨gb0, 0, none⟩) f.blocks.length mc] W' fun e w' => e = .returned (.bool false) ∧ Below W'.heap.size W' w') := fun W' h => by
        have := eq_differs f { f with blocks := f.blocks.set kb { p.blk with code := p.blk.code.set km { i with sym := tv } } } W' aa ba na (some ⟨gb0, 0, none⟩) ac bc nc mc (HFW.out.below (below_next HBX.out h)) (HGX.out.below h) HNE.out
        show Calls _ _ _ _ _
        simpa using this
      have HEQ' : Hid (∀ W', Below X.heap.size X W' → Calls Try.prog 27 #[fnVal f.name f.regs na f.arrays.length nc (some ⟨gb0, 0, none⟩) f.blocks.length mc, fnVal f.name f.regs aa f.arrays.length ac ba f.blocks.length bc] W' fun e w' => e = .returned (.bool false) ∧ Below W'.heap.size W' w') := fun W' h => by
        have := eq_differs' f { f with blocks := f.blocks.set kb { p.blk with code := p.blk.code.set km { i with sym := tv } } } W' aa ba na (some ⟨gb0, 0, none⟩) ac bc nc mc (HFW.out.below (below_next HBX.out h)) (HGX.out.below h) HNE.out
        show Calls _ _ _ _ _
        simpa using this
      have y0' := (HBX.out.cell (p := ⟨w.heap.size, 0, none⟩) hWs).trans (cell_heap HX.out 0)
      have y1' := (HBX.out.cell (p := ⟨w.heap.size, 1, none⟩) hWs).trans (cell_heap HX.out 1)
      have y2' := (HBX.out.cell (p := ⟨w.heap.size, 2, none⟩) hWs).trans (cell_heap HX.out 2)
      have y3' := (HBX.out.cell (p := ⟨w.heap.size, 3, none⟩) hWs).trans (cell_heap HX.out 3)
      simp only [List.getElem?_toArray, List.getElem?_cons_zero, List.getElem?_cons_succ] at y0' y1' y2' y3'
      obtain ⟨k0, k1, k2, k3⟩ := fn_cells' HXG.out (Below.refl _ _)
      go_wp2_with fail
      clear hX htv hz9 y0' y1' y2' y3' k0 k1 k2 k3 f0 f1 f2 f3 f4 f5
      clear y0 y1 y2 y3
      refine (HEQ.out X (Below.refl _ _)).mono ?_
      rintro e w6 ⟨rfl, hB7⟩
      have HB7 := Lib.hid hB7
      clear hB7
      obtain ⟨y0, y1, y2, y3⟩ := fn_cells' HX.out (below_next HBX.out HB7.out)
      obtain ⟨g0, g1, g2, g3⟩ := fn_cells' HXG.out HB7.out
      go_wp2_with fail
      refine (HEQ'.out w6 HB7.out).mono ?_
      rintro e w7 ⟨rfl, hB8⟩
      have HB8 := Lib.hid (below_next HBX.out (below_next HB7.out hB8))
      clear hB8
      go_wp2_with fail
      go_ret
      exact ⟨rfl, HBW.out.trans (HB8.out.mono (by omega))⟩
end Go.Proofs.Ytjdfcpjlmfaaaaa
