/-
  Contract: Of (package liveness).
-/
import Derived.Test.YteknhnnlhhgppaaDoorLiveSolve
import Derived.Test.YteknhnnlhhgppaaDoorLiveForm
import Derived.Test.YteknhnnlhhgppaaDoorMg8
import Derived.Deep.RegionHeld
import Derived.OrdersHeld
import Derived.Deep.RegionLaw
namespace Go.Proofs.YteknhnnlhhgppaaDoor
set_option linter.unusedVariables false
set_option linter.unusedSimpArgs false
open Go.RowKit
set_option maxRecDepth 100000
set_option maxHeartbeats 16000000

def OnlyN (R : Act → World → Prop) : Exit → Act → World → Prop
  | .normal, a, w => R a w
  | _, _, _ => False
theorem cut_wp {P : Program} {cd : Code} {Q : Exit → Act → World → Prop} {a : Act} {W : World} (R : Act → Act → World → Prop)
    (h : cd.wp P (OnlyN (R a)) a W) (hq : ∀ a' w', R a a' w' → Q .normal a' w') : cd.wp P Q a W :=
  wp_mono h fun e a' w' h' => by cases e <;> first | exact hq a' w' h' | exact (h' : False).elim
/-- a row of rows of ints of the call's own -/
structure IRows (B : Nat) (w : World) (v : Value) (rows : List (Value × List Int)) : Prop where
  ro : w.ownsRow B 39 1 v rows.length (rows.map (·.1))
  ri : ∀ p ∈ rows, IntRow B w p.1 p.2
section
variable {B : Nat} {w w' : World} {v : Value} {rows : List (Value × List Int)}
theorem IRows.nil : IRows B w (.slice none 0 0) [] := ⟨World.ownsRow_nil _ _ _ _, by simp⟩
theorem IRows.keep (h : IRows B w v rows) (hB : Below w.heap.size w w') : IRows B w' v rows := ⟨ownsRow_below h.ro hB, fun p hp => (h.ri p hp).keep hB⟩
theorem IRows.base {B' : Nat} (h : IRows B w v rows) (hB : B' ≤ B) : IRows B' w v rows := ⟨ownsRow_base h.ro hB, fun p hp => ownsRow_base (h.ri p hp) hB⟩
theorem IRows.val (h : IRows B w v rows) : ∃ a c, v = .slice a rows.length c := ownsRow_val h.ro
theorem IRows.push {v' u : Value} {l : List Int} (h : IRows B w v rows) (hu : IntRow B w u l) (hg : w.grownBy w' v.ownBlock) (hn : w'.ownsRow B 39 1 v' (rows.length + 1) (rows.map (·.1) ++ [u])) : IRows B w' v' (rows ++ [(u, l)]) := by
  refine ⟨by simpa using hn, fun p hp => ?_⟩
  have ht : Turn v w w' := Turn.grown hg
  rcases List.mem_append.1 hp with hp | hp
  · exact row_other (h.ri p hp) h.ro (by decide) ht
  · obtain rfl := List.mem_singleton.1 hp
    exact row_other hu h.ro (by decide) ht
/-- another row is pushed -/
theorem IRows.other {x : Value} {n : Nat} {xs : List Value} (h : IRows B w v rows) (k : w.ownsRow B 39 1 x n xs) (hne : Apart v x) (hg : w.grownBy w' x.ownBlock) : IRows B w' v rows :=
  ⟨row_apart h.ro hne (Turn.grown hg), fun p hp => row_other (h.ri p hp) k (by decide) (Turn.grown hg)⟩
/-- a store into a block of another kind -/
theorem IRows.box {b o : Nat} {u : Value} {arr : Array Value} {T : TypeId} (h : IRows B w v rows) (hb : w.heap[b]? = some (.cells arr T)) (h1 : T ≠ 39) (h2 : T ≠ 3) : IRows B (w.setCell ⟨b, o, none⟩ u) v rows :=
  ⟨ownsRow_move h.ro fun k hk _ => Below.heap_setCell _ _ _ _ (fun e => ownsRow_ne h.ro hb h1 (by rw [hk, show k = b from e])), fun p hp => ownsRow_move (h.ri p hp) fun k hk _ => Below.heap_setCell _ _ _ _ (fun e => ownsRow_ne (h.ri p hp) hb h2 (by rw [hk, show k = b from e]))⟩
end
/-- Of on its way: the box of the sets -/
structure OfSt (N : Nat) (w1 w : World) (iv ov : Value) (rin rout : List (Value × List Int)) : Prop where
  box : w.heap[N]? = some (.cells #[iv, ov] 30)
  ri : IRows N w iv rin
  ro : IRows N w ov rout
  ne : Apart iv ov
  bel : Below N w1 w
theorem OfSt.keep {N : Nat} {w1 w w' : World} {iv ov : Value} {rin rout : List (Value × List Int)} (h : OfSt N w1 w iv ov rin rout) (hB : Below w.heap.size w w') (hN : N ≤ w.heap.size) : OfSt N w1 w' iv ov rin rout :=
  ⟨(hB.block _ (lt_heap h.box)).trans h.box, h.ri.keep hB, h.ro.keep hB, h.ne, h.bel.trans (hB.mono hN)⟩
theorem OfSt.addIn {N : Nat} {w1 w w' : World} {iv ov iv' u : Value} {l : List Int} {rin rout : List (Value × List Int)} (h : OfSt N w1 w iv ov rin rout) (hN : N ≤ w.heap.size) (hu : IntRow N w u l) (hg : w.grownBy w' iv.ownBlock) (hn : w'.ownsRow N 39 1 iv' (rin.length + 1) (rin.map (·.1) ++ [u])) (hp : iv.ownBlock = iv'.ownBlock ∨ ∃ g, iv'.ownBlock = some g ∧ w.heap.size ≤ g) :
    w'.heap[N]? = some (.cells #[iv, ov] 30) ∧ OfSt N w1 (w'.setCell ⟨N, 0, none⟩ iv') iv' ov (rin ++ [(u, l)]) rout := by
  have ht : Turn iv w w' := Turn.grown hg
  have hb : w'.heap[N]? = some (.cells #[iv, ov] 30) := block_other h.ri.ro h.box (by decide) ht
  refine ⟨hb, ⟨by rw [setCell_heap hb]; rfl, (h.ri.push hu hg hn).box hb (by decide) (by decide), (h.ro.other h.ri.ro h.ne.symm hg).box hb (by decide) (by decide), ?_, (h.bel.trans (ht.below hN (fun k hk => (ownsRow_lt h.ri.ro hk).1))).setCell (Nat.le_refl _) _⟩⟩
  rcases hp with hp | ⟨g, hp, hg⟩
  · have := h.ne; unfold Apart at this ⊢; rw [← hp]; exact this
  · exact (apart_lt (N := w.heap.size) (fun k hk => (ownsRow_lt h.ro.ro hk).2) (fun k hk => by rw [hp] at hk; injection hk with hk; omega)).symm
theorem OfSt.addOut {N : Nat} {w1 w w' : World} {iv ov ov' u : Value} {l : List Int} {rin rout : List (Value × List Int)} (h : OfSt N w1 w iv ov rin rout) (hN : N ≤ w.heap.size) (hu : IntRow N w u l) (hg : w.grownBy w' ov.ownBlock) (hn : w'.ownsRow N 39 1 ov' (rout.length + 1) (rout.map (·.1) ++ [u])) (hp : ov.ownBlock = ov'.ownBlock ∨ ∃ g, ov'.ownBlock = some g ∧ w.heap.size ≤ g) :
    w'.heap[N]? = some (.cells #[iv, ov] 30) ∧ OfSt N w1 (w'.setCell ⟨N, 1, none⟩ ov') iv ov' rin (rout ++ [(u, l)]) := by
  have ht : Turn ov w w' := Turn.grown hg
  have hb : w'.heap[N]? = some (.cells #[iv, ov] 30) := block_other h.ro.ro h.box (by decide) ht
  refine ⟨hb, ⟨by rw [setCell_heap hb]; rfl, (h.ri.other h.ro.ro h.ne hg).box hb (by decide) (by decide), (h.ro.push hu hg hn).box hb (by decide) (by decide), ?_, (h.bel.trans (ht.below hN (fun k hk => (ownsRow_lt h.ro.ro hk).1))).setCell (Nat.le_refl _) _⟩⟩
  rcases hp with hp | ⟨g, hp, hg⟩
  · have := h.ne; unfold Apart at this ⊢; rw [← hp]; exact this
  · exact apart_lt (N := w.heap.size) (fun k hk => (ownsRow_lt h.ri.ro hk).2) (fun k hk => by rw [hp] at hk; injection hk with hk; omega)
def RIn (N : Nat) (w1 : World) (ov : Value) (rin rout : List (Value × List Int)) (l : List Int) (a a' : Act) (w' : World) : Prop :=
  ∃ y0 y1 y2 y3 y4 y5 y6 y7 y8 y9, a' = { a with tmps := ((((((((((a.tmps.setIfInBounds 23 y0).setIfInBounds 24 y1).setIfInBounds 25 y2).setIfInBounds 26 y3).setIfInBounds 27 y4).setIfInBounds 28 y5).setIfInBounds 29 y6).setIfInBounds 30 y7).setIfInBounds 31 y8).setIfInBounds 32 y9) } ∧ ∃ iv' u, OfSt N w1 w' iv' ov (rin ++ [(u, l)]) rout
def ROut (N : Nat) (w1 : World) (iv : Value) (rin rout : List (Value × List Int)) (l : List Int) (a a' : Act) (w' : World) : Prop :=
  ∃ y0 y1 y2 y3 y4 y5 y6 y7 y8 y9, a' = { a with tmps := ((((((((((a.tmps.setIfInBounds 33 y0).setIfInBounds 34 y1).setIfInBounds 35 y2).setIfInBounds 36 y3).setIfInBounds 37 y4).setIfInBounds 38 y5).setIfInBounds 39 y6).setIfInBounds 40 y7).setIfInBounds 41 y8).setIfInBounds 42 y9) } ∧ ∃ ov' u, OfSt N w1 w' iv ov' rin (rout ++ [(u, l)])
/-- what Of answers of a well-formed function -/
def OfEnd (f : Fn) (R : Nat) (w : World) (e : Ending) (w' : World) : Prop :=
  ∃ iv ov rin rout ins outs, e = .returned (.tuple #[.agg #[iv, ov], .int .i64 0]) ∧ IRows w.heap.size w' iv rin ∧ IRows w.heap.size w' ov rout ∧ Sol f R ins outs ∧ rin.map (·.2) = ins.map listB ∧ rout.map (·.2) = outs.map listB ∧ Below w.heap.size w w'

theorem two_cells {w : World} {b : Nat} {t : TypeId} {v0 v1 : Value} (h : w.heap[b]? = some (.cells #[v0, v1] t)) : w.cell? ⟨b, 0, none⟩ = some v0 ∧ w.cell? ⟨b, 1, none⟩ = some v1 := ⟨cell_heap h 0, cell_heap h 1⟩
theorem of_any (f : Fn) (R : Nat) (aa ba : Option Addr) (ac bc : Nat) (w : World) (hf : FnAt w f aa ba) (hF : FormF f) (hreg : f.regs = (R : Int)) (hR : R ≤ 12) (hbl : f.blocks.length ≤ 1000) (hcl : ∀ b ∈ f.blocks, b.code.length ≤ 1000000) (hT : TabAt 0 Lib.deBruijn64tab w) :
    Calls Tryd.prog 12 #[fnVal f.name f.regs aa f.arrays.length ac ba f.blocks.length bc] w (OfEnd f R w) := by
  have hFR : FormR f R := by
    have := hF.small (by omega)
    rwa [hreg, Int.toNat_natCast] at this
  have HF := Lib.hid hf
  have HFF := Lib.hid hF
  have HFR := Lib.hid hFR
  have HCL := Lib.hid hcl
  have HTAB0 := Lib.hid hT
  obtain ⟨n, hn⟩ : ∃ n, f.blocks.length = n := ⟨_, rfl⟩
  have HN := Lib.hid hn
  have HREG := Lib.hid hreg
  obtain ⟨W, hW⟩ : ∃ W : World, (w.alloc (.cells #[.string f.name, .int .i64 (R : Int), .slice aa f.arrays.length ac, .slice ba n bc] 25)).alloc (.cells #[.slice none 0 0, .slice none 0 0] 30) = W := ⟨_, rfl⟩
  have hWs : W.heap.size = w.heap.size + 2 := by rw [← hW]; simp
  have HWS := Lib.hid hWs
  have HBW : Hid (Below w.heap.size w W) := by show Below _ _ _; rw [← hW]; exact ((Below.refl _ _).alloc (Nat.le_refl _) _).alloc (by simp) _
  have HX : Hid (W.heap[w.heap.size]? = some (.cells #[.string f.name, .int .i64 (R : Int), .slice aa f.arrays.length ac, .slice ba n bc] 25)) := by
    show _ = _
    rw [← hW, Below.heap_alloc _ _ _ (by simp)]
    exact (MapKept.heap_alloc w _).1
  have HZ : Hid (W.heap[w.heap.size + 1]? = some (.cells #[.slice none 0 0, .slice none 0 0] 30)) := by
    show _ = _
    rw [← hW]
    exact MapKept.heap_alloc (w.alloc _) _ |>.1 |> fun h => by simpa using h
  have HXC : Hid (∀ w', Below W.heap.size W w' → w'.cell? ⟨w.heap.size, 0, none⟩ = some (.string f.name) ∧ w'.cell? ⟨w.heap.size, 1, none⟩ = some (.int .i64 (R : Int)) ∧ w'.cell? ⟨w.heap.size, 2, none⟩ = some (.slice aa f.arrays.length ac) ∧ w'.cell? ⟨w.heap.size, 3, none⟩ = some (.slice ba n bc)) := fun w' h => by
    have h9 := (h.block _ (show w.heap.size < W.heap.size by omega)).trans HX.out
    exact ⟨cell_heap h9 0, cell_heap h9 1, cell_heap h9 2, cell_heap h9 3⟩
  obtain ⟨x0, x1, x2, x3⟩ := HXC.out W (Below.refl _ _)
  have QF : Hid (∀ w', Below w.heap.size w w' → Calls Tryd.prog 40 #[.agg #[.string f.name, .int .i64 (R : Int), .slice aa f.arrays.length ac, .slice ba n bc]] w' (fun e w'' => e = .returned (.bool true) ∧ Below w'.heap.size w' w'')) := fun w' h => by
    have h9 := wellFormed_any f aa ba ac bc w' (HF.out.below h) (by rw [HN.out]; omega) HCL.out
    rw [HREG.out, HN.out] at h9
    refine h9.mono fun e w'' ⟨r, he, hr, hB⟩ => ⟨?_, hB⟩
    rw [he, hr.2 HFF.out]
  have QS : Hid (∀ w', Below w.heap.size w w' → Calls Tryd.prog 41 #[.agg #[.string f.name, .int .i64 (R : Int), .slice aa f.arrays.length ac, .slice ba n bc]] w' (SolEnd f R w')) := fun w' h => by
    have h9 := solve_any f R aa ba ac bc w' (HF.out.below h) HFR.out (by rw [HN.out]; omega) HCL.out
    rw [HREG.out, HN.out] at h9
    exact h9
  rw [hn, hreg]
  rw [hn] at hbl
  clear hf hF hFR hcl hT hn hreg hWs
  go_enter Tryd.func12, Tryd.ntmps12
  go_wp2_with fail
  clear hW x0 x1 x2 x3
  refine (QF.out _ HBW.out).mono ?_
  rintro e w0 ⟨rfl, hB⟩
  have HB0 := Lib.hid hB
  obtain ⟨x0, x1, x2, x3⟩ := HXC.out w0 hB
  clear hB
  go_wp2_with fail
  clear x0 x1 x2 x3
  refine (QS.out _ (below_step HBW.out (HB0.out))).mono ?_
  rintro e w1 ⟨siv, sov, spv, swv, skv, ins, outs, sprev, swait, swork, rfl, hst, hsol, hB⟩
  obtain ⟨iva, ivc, rfl⟩ := ownsRow_val hst.io
  obtain ⟨ova, ovc, rfl⟩ := ownsRow_val hst.oo
  have hil : ins.length = n := by have := hsol.li; rw [List.length_map, HN.out] at this; exact this
  have hol : outs.length = n := by have := hsol.lo; rw [List.length_map, HN.out] at this; exact this
  have hnp : 0 < n := by have := HFR.out.one; rw [HN.out] at this; exact this
  obtain ⟨ib, rfl, _⟩ := own_some hst.io (by omega)
  obtain ⟨ob, rfl, _⟩ := own_some hst.oo (by omega)
  have HST := Lib.hid hst
  have HSOL := Lib.hid hsol
  have HB1 : Hid (Below W.heap.size W w1) := below_step HB0.out hB
  have HLL := Lib.hid (And.intro hil hol)
  rw [hil, hol]
  obtain ⟨x0, x1, x2, x3⟩ := HXC.out w1 HB1.out
  obtain ⟨V1, hV1⟩ : ∃ V1 : World, w1.alloc (.cells #[.slice none 0 0, .slice none 0 0] 30) = V1 := ⟨_, rfl⟩
  have HBV1 : Hid (Below w1.heap.size w1 V1) := by show Below _ _ _; rw [← hV1]; exact (Below.refl _ _).alloc (Nat.le_refl _) _
  obtain ⟨y0, y1, y2, y3⟩ := HXC.out V1 (below_step HB1.out HBV1.out)
  have HOF0 : Hid (OfSt w1.heap.size w1 V1 (.slice none 0 0) (.slice none 0 0) [] []) := ⟨by rw [← hV1]; exact (MapKept.heap_alloc w1 _).1, IRows.nil, IRows.nil, .inl rfl, HBV1.out⟩
  have HTAB : Hid (TabAt 0 Lib.deBruijn64tab w1) := tab_keep HTAB0.out (HBW.out.trans (HB1.out.mono HBW.out.size))
  have hn0 : (0 : Int) ≤ (n : Int) := by omega
  clear hst hsol hB hil hol
  go_wp2_with fail
  clear hV1 x0 x1 x2 x3 y0 y1 y2 y3
  go_loopw [20] (fun i wr => ∃ (j : Nat) (iv ov : Value) (rin rout : List (Value × List Int)), j ≤ n ∧ i = .int .i64 (j : Int) ∧ OfSt w1.heap.size w1 wr iv ov rin rout ∧ rin.map (·.2) = ((ins.map (·.2)).take j).map listB ∧ rout.map (·.2) = ((outs.map (·.2)).take j).map listB) (fun i _ => n - (intOf i).toNat)
  case atStart => exact ⟨0, _, _, [], [], Nat.zero_le _, rfl, HOF0.out, by simp, by simp⟩
  case round =>
    obtain ⟨j, iv, ov, rin, rout, hj, rfl, hof, hri, hro⟩ := hrel
    have HO := Lib.hid hof
    have HRI := Lib.hid hri
    have HRO := Lib.hid hro
    have hj0 : (0 : Int) ≤ (j : Int) := by omega
    have hril : rin.length = j := by have := congrArg List.length hri; simp at this; have := HLL.out; omega
    have hrol : rout.length = j := by have := congrArg List.length hro; simp at this; have := HLL.out; omega
    have HRL := Lib.hid (And.intro hril hrol)
    obtain ⟨iva, ivc2, rfl⟩ := hof.ri.val
    obtain ⟨ova, ovc2, rfl⟩ := hof.ro.val
    have hnr : w1.heap.size ≤ wr.heap.size := hof.bel.size
    have HNR := Lib.hid hnr
    clear hof hri hro hril hrol hnr
    by_cases hlt : j < n
    · have hlt2 : (j : Int) < (n : Int) := by omega
      obtain ⟨vi, hvi⟩ : ∃ vi, ins[j]? = some vi := ⟨_, List.getElem?_eq_getElem (by have := HLL.out; omega)⟩
      obtain ⟨vo, hvo⟩ : ∃ vo, outs[j]? = some vo := ⟨_, List.getElem?_eq_getElem (by have := HLL.out; omega)⟩
      obtain ⟨vI, sIn⟩ := vi
      obtain ⟨vO, sOut⟩ := vo
      obtain ⟨vIna, vInc, e1⟩ := ownsRow_val (HST.out.ii _ (List.mem_of_getElem? hvi)).row
      obtain ⟨vOuta, vOutc, e2⟩ := ownsRow_val (HST.out.oi _ (List.mem_of_getElem? hvo)).row
      simp only at e1 e2
      subst e1 e2
      have HVI := Lib.hid hvi
      have HVO := Lib.hid hvo
      have HVSIn : Hid (∀ w', Below w1.heap.size w1 w' → w'.cell? ⟨ib, j, none⟩ = some (.slice vIna (nw R) vInc) ∧ SetV w0.heap.size R w' (.slice vIna (nw R) vInc) sIn ∧ Below w1.heap.size w1 w') := fun w' h =>
        ⟨((HST.out.keep h).cellInA rfl HVI.out).1, (HST.out.keep h).ii _ (List.mem_of_getElem? HVI.out), h⟩
      have HVSOut : Hid (∀ w', Below w1.heap.size w1 w' → w'.cell? ⟨ob, j, none⟩ = some (.slice vOuta (nw R) vOutc) ∧ SetV w0.heap.size R w' (.slice vOuta (nw R) vOutc) sOut ∧ Below w1.heap.size w1 w') := fun w' h =>
        ⟨((HST.out.keep h).cellOutA rfl HVO.out).1, (HST.out.keep h).oi _ (List.mem_of_getElem? HVO.out), h⟩
      have HLR : Hid (rin.length ≤ 1000 ∧ rout.length ≤ 1000) := by show _ ∧ _; have := HRL.out; omega
      obtain ⟨i0, hi, hz0, hz1, hz2⟩ := info_parts Tryd.infoIs
      clear hvi hvo
      go_wp2_with fail
      refine cut_wp (RIn w1.heap.size w1 (.slice ova rout.length ovc2) rin rout (listB sIn)) ?_ ?_
      · skip
        have HOD : Hid (OfSt w1.heap.size w1 wr.drew (.slice iva rin.length ivc2) (.slice ova rout.length ovc2) rin rout) := HO.out.keep (Below.refl _ _).drew HNR.out
        have HND : Hid (w1.heap.size ≤ wr.drew.heap.size) := HNR.out
        refine wp_region_held_drew (S := Below w1.heap.size w1) (by kernel_rfl) HOD.out.bel (fun hHeld => ?_)
        have HOC := HOD
        have HNC := HND
        obtain ⟨r0, r1⟩ := two_cells HOD.out.box
        generalize hwd : wr.drew = D at hHeld HOD HOC HND HNC r0 r1 ⊢
        clear hwd
        refine wpAnyH_take (i := 0) (v := .pointer (some ⟨w1.heap.size, 0, none⟩)) rfl (by kernel_rfl) (by kernel_rfl) (by kernel_rfl) (fun _ _ _ h => h) (Or.inl ⟨by rfl, ?_⟩) (by assumption) ?_
        · intro w' hSw; go_simp
        (try simp only [Act.put, List.getElem_toArray, List.getElem_cons_zero, List.setIfInBounds_toArray, List.set_cons_zero, List.set_cons_succ])
        refine wpAnyH_take (i := 2) (v := .slice (some ⟨ib, 0, none⟩) n ivc) rfl (by kernel_rfl) (by kernel_rfl) (by kernel_rfl) (fun _ _ _ h => h) (Or.inl ⟨by rfl, ?_⟩) (by assumption) ?_
        · intro w' hSw; go_simp
        (try simp only [Act.put, List.getElem_toArray, List.getElem_cons_zero, List.getElem_cons_succ, List.setIfInBounds_toArray, List.set_cons_zero, List.set_cons_succ])
        refine wpAnyH_take (i := 3) (v := .int .i64 (j : Int)) rfl (by kernel_rfl) (by kernel_rfl) (by kernel_rfl) (fun _ _ _ h => h) (Or.inl ⟨by rfl, ?_⟩) (by assumption) ?_
        · intro w' hSw; go_simp
        (try simp only [Act.put, List.getElem_toArray, List.getElem_cons_zero, List.getElem_cons_succ, List.setIfInBounds_toArray, List.set_cons_zero, List.set_cons_succ])
        refine wpAnyH_take (i := 4) (v := .pointer (some ⟨ib, j, none⟩)) rfl (by kernel_rfl) (by kernel_rfl) (by kernel_rfl) (fun _ _ _ h => h) (Or.inl ⟨by rfl, ?_⟩) (by assumption) ?_
        · intro w' hSw; go_simp
        (try simp only [Act.put, List.getElem_toArray, List.getElem_cons_zero, List.getElem_cons_succ, List.setIfInBounds_toArray, List.set_cons_zero, List.set_cons_succ])
        refine wpAnyH_take (i := 5) (v := .slice vIna (nw R) vInc) rfl (by kernel_rfl) (by kernel_rfl) (by kernel_rfl) (fun _ _ _ h => h) (Or.inl ⟨by rfl, ?_⟩) (by assumption) ?_
        · intro w' hSw; have q0 := (HVSIn.out _ hSw).1; clear hSw; go_simp
        (try simp only [Act.put, List.getElem_toArray, List.getElem_cons_zero, List.getElem_cons_succ, List.setIfInBounds_toArray, List.set_cons_zero, List.set_cons_succ])
        refine wpAnyH_ready (rs := [1, 6]) (by kernel_rfl) (by simp) (AllReadyH.cons rfl (fun K hK => ?_) (AllReadyH.cons rfl (fun K hK => ?_) AllReadyH.nil))
        · go_simp
          refine hK.out _ _ (hHeld) (fun hHeld => ?_)
          clear hK K
          rename_i hOld
          clear hOld
          (try simp only [Act.put, List.getElem_toArray, List.getElem_cons_zero, List.getElem_cons_succ, List.setIfInBounds_toArray, List.set_cons_zero, List.set_cons_succ])
          refine wpAnyH_ready (rs := [6]) (by kernel_rfl) (by simp) (AllReadyH.cons rfl (fun K hK => ?_) AllReadyH.nil)
          go_simp
          refine (list_any _ (HVSIn.out _ hHeld).2.1 (tab_keep HTAB.out (HVSIn.out _ hHeld).2.2)).mono ?_
          rintro e w6 ⟨ul, rfl, hI, hB6⟩
          obtain ⟨la, lc, rfl⟩ := hI.val
          have HO6 := Lib.hid (HOC.out.keep hB6 HNC.out)
          have HN6 : Hid (w1.heap.size ≤ w6.heap.size) := Nat.le_trans HNC.out hB6.size
          have HI6 : Hid (IntRow w1.heap.size w6 (.slice la (listB sIn).length lc) (listB sIn)) := ownsRow_base hI HNC.out
          clear hI hB6
          refine hK.out _ _ (HO6.out.bel) (fun hHeld => ?_)
          clear hK K
          rename_i hOld
          clear hOld
          (try simp only [Act.put, List.getElem_toArray, List.getElem_cons_zero, List.getElem_cons_succ, List.setIfInBounds_toArray, List.set_cons_zero, List.set_cons_succ])
          refine wpAnyH_ready (rs := [7]) (by kernel_rfl) (by simp) (AllReadyH.cons rfl (fun K hK => ?_) AllReadyH.nil)
          go_simp
          have HOA := Lib.hid (HO6.out.keep ((Below.refl w6.heap.size w6).alloc (Nat.le_refl _) (.cells #[.slice la (listB sIn).length lc] 39)) HN6.out)
          have HNA : Hid (w1.heap.size ≤ (w6.alloc (.cells #[.slice la (listB sIn).length lc] 39)).heap.size) := by show _ ≤ _; have := HN6.out; simp; omega
          have HIA := Lib.hid (HI6.out.keep ((Below.refl w6.heap.size w6).alloc (Nat.le_refl _) (.cells #[.slice la (listB sIn).length lc] 39)))
          have HCA : Hid ((w6.alloc (.cells #[.slice la (listB sIn).length lc] 39)).cell? ((⟨w6.heap.size, 0, none⟩ : Addr).add 0) = some (.slice la (listB sIn).length lc)) := World.cell?_alloc_new _ _ _ 0
          refine hK.out _ _ (HOA.out.bel) (fun hHeld => ?_)
          clear hK K
          rename_i hOld
          clear hOld
          (try simp only [Act.put, List.getElem_toArray, List.getElem_cons_zero, List.getElem_cons_succ, List.setIfInBounds_toArray, List.set_cons_zero, List.set_cons_succ])
          refine wpAnyH_ready (rs := [8]) (by kernel_rfl) (by simp) (AllReadyH.cons rfl (fun K hK => ?_) AllReadyH.nil)
  
          refine step_append_row rfl (.tmp 24) (.tmp 30) 28 rfl w1.heap.size 39 i0 _ 1 24 Tryd.underlying28 hi hz0 hz1 hz2 rfl (by decide) (.slice iva rin.length ivc2) rin.length (rin.map (·.1)) (by simp [Act.eval]) HOA.out.ri.ro ⟨w6.heap.size, 0, none⟩ 1 1 [.slice la (listB sIn).length lc] (by simp [Act.eval]) rfl ?d1 ?d2 (by decide) (by unfold maxLen; have := HLR.out; omega) (by have := HLR.out; omega) HOA.out.bel.size ?_
          case d1 => intro jj q hq; match jj, hq with | 0, hq => simp at hq; subst hq; exact HCA.out
          case d2 => intro q hq; simp at hq; subst hq; rfl
          intro g9 cap9 w9 hn9 hg9 hp9
          obtain ⟨hb9, hO9⟩ := HOA.out.addIn HNA.out HIA.out hg9 hn9 (by rcases hp9 with h | h; exact .inl h; exact .inr ⟨g9, rfl, h⟩)
          have HO9 := Lib.hid hO9
          have q9 : w9.cell? ⟨w1.heap.size, 0, none⟩ = some (.slice iva rin.length ivc2) := cell_heap hb9 0
          have y9 : w9.frozen? ⟨w1.heap.size, 0, none⟩ = false := frozen_heap hb9 0
          have HB9 : Hid (Below w1.heap.size w1 w9) := HOA.out.bel.trans ((Turn.grown (v := (.slice iva rin.length ivc2)) hg9).below HNA.out (fun k hk => (ownsRow_lt HOA.out.ri.ro hk).1))
          clear hn9 hg9 hp9 hb9 hO9
          refine hK.out _ _ (HB9.out) (fun hHeld => ?_)
          clear hK K
          rename_i hOld
          clear hOld
          (try simp only [Act.put, List.getElem_toArray, List.getElem_cons_zero, List.getElem_cons_succ, List.setIfInBounds_toArray, List.set_cons_zero, List.set_cons_succ])
          refine wpAnyH_take (i := 9) (v := .pointer (some ⟨w1.heap.size, 0, none⟩)) rfl (by kernel_rfl) (by kernel_rfl) (by kernel_rfl) (fun _ _ _ h => h) (Or.inl ⟨by rfl, ?_⟩) (by assumption) ?_
          · intro w' hSw; go_simp
          (try simp only [Act.put, List.getElem_toArray, List.getElem_cons_zero, List.getElem_cons_succ, List.setIfInBounds_toArray, List.set_cons_zero, List.set_cons_succ])
          refine wpAnyH_ready (rs := [10]) (by kernel_rfl) (by simp) (AllReadyH.cons rfl (fun K hK => ?_) AllReadyH.nil)
          go_simp
          refine hK.out _ _ (HO9.out.bel) (fun hHeld => ?_)
          clear hK K
          rename_i hOld
          clear hOld
          (try simp only [Act.put, List.getElem_toArray, List.getElem_cons_zero, List.getElem_cons_succ, List.setIfInBounds_toArray, List.set_cons_zero, List.set_cons_succ])
          refine wpAnyH_done (by kernel_rfl) ?_ _
          exact ⟨_, _, _, _, _, _, _, _, _, _, by (simp only [List.setIfInBounds_toArray, List.set_cons_zero, List.set_cons_succ]; rfl), _, _, HO9.out⟩
        · go_simp
          refine (list_any _ (HVSIn.out _ hHeld).2.1 (tab_keep HTAB.out (HVSIn.out _ hHeld).2.2)).mono ?_
          rintro e w6 ⟨ul, rfl, hI, hB6⟩
          obtain ⟨la, lc, rfl⟩ := hI.val
          have HO6 := Lib.hid (HOC.out.keep hB6 HNC.out)
          have HN6 : Hid (w1.heap.size ≤ w6.heap.size) := Nat.le_trans HNC.out hB6.size
          have HI6 : Hid (IntRow w1.heap.size w6 (.slice la (listB sIn).length lc) (listB sIn)) := ownsRow_base hI HNC.out
          clear hI hB6
          refine hK.out _ _ (HO6.out.bel) (fun hHeld => ?_)
          clear hK K
          rename_i hOld
          clear hOld
          (try simp only [Act.put, List.getElem_toArray, List.getElem_cons_zero, List.getElem_cons_succ, List.setIfInBounds_toArray, List.set_cons_zero, List.set_cons_succ])
          obtain ⟨r0, r1⟩ := two_cells HO6.out.box
          refine wpAnyH_ready (rs := [1, 7]) (by kernel_rfl) (by simp) (AllReadyH.cons rfl (fun K hK => ?_) (AllReadyH.cons rfl (fun K hK => ?_) AllReadyH.nil))
          · go_simp
            refine hK.out _ _ (hHeld) (fun hHeld => ?_)
            clear hK K
            rename_i hOld
            clear hOld
            (try simp only [Act.put, List.getElem_toArray, List.getElem_cons_zero, List.getElem_cons_succ, List.setIfInBounds_toArray, List.set_cons_zero, List.set_cons_succ])
            refine wpAnyH_ready (rs := [7]) (by kernel_rfl) (by simp) (AllReadyH.cons rfl (fun K hK => ?_) AllReadyH.nil)
            go_simp
            have HOA := Lib.hid (HO6.out.keep ((Below.refl w6.heap.size w6).alloc (Nat.le_refl _) (.cells #[.slice la (listB sIn).length lc] 39)) HN6.out)
            have HNA : Hid (w1.heap.size ≤ (w6.alloc (.cells #[.slice la (listB sIn).length lc] 39)).heap.size) := by show _ ≤ _; have := HN6.out; simp; omega
            have HIA := Lib.hid (HI6.out.keep ((Below.refl w6.heap.size w6).alloc (Nat.le_refl _) (.cells #[.slice la (listB sIn).length lc] 39)))
            have HCA : Hid ((w6.alloc (.cells #[.slice la (listB sIn).length lc] 39)).cell? ((⟨w6.heap.size, 0, none⟩ : Addr).add 0) = some (.slice la (listB sIn).length lc)) := World.cell?_alloc_new _ _ _ 0
            refine hK.out _ _ (HOA.out.bel) (fun hHeld => ?_)
            clear hK K
            rename_i hOld
            clear hOld
            (try simp only [Act.put, List.getElem_toArray, List.getElem_cons_zero, List.getElem_cons_succ, List.setIfInBounds_toArray, List.set_cons_zero, List.set_cons_succ])
            refine wpAnyH_ready (rs := [8]) (by kernel_rfl) (by simp) (AllReadyH.cons rfl (fun K hK => ?_) AllReadyH.nil)
            refine step_append_row rfl (.tmp 24) (.tmp 30) 28 rfl w1.heap.size 39 i0 _ 1 24 Tryd.underlying28 hi hz0 hz1 hz2 rfl (by decide) (.slice iva rin.length ivc2) rin.length (rin.map (·.1)) (by simp [Act.eval]) HOA.out.ri.ro ⟨w6.heap.size, 0, none⟩ 1 1 [.slice la (listB sIn).length lc] (by simp [Act.eval]) rfl ?d1 ?d2 (by decide) (by unfold maxLen; have := HLR.out; omega) (by have := HLR.out; omega) HOA.out.bel.size ?_
            case d1 => intro jj q hq; match jj, hq with | 0, hq => simp at hq; subst hq; exact HCA.out
            case d2 => intro q hq; simp at hq; subst hq; rfl
            intro g9 cap9 w9 hn9 hg9 hp9
            obtain ⟨hb9, hO9⟩ := HOA.out.addIn HNA.out HIA.out hg9 hn9 (by rcases hp9 with h | h; exact .inl h; exact .inr ⟨g9, rfl, h⟩)
            have HO9 := Lib.hid hO9
            have q9 : w9.cell? ⟨w1.heap.size, 0, none⟩ = some (.slice iva rin.length ivc2) := cell_heap hb9 0
            have y9 : w9.frozen? ⟨w1.heap.size, 0, none⟩ = false := frozen_heap hb9 0
            have HB9 : Hid (Below w1.heap.size w1 w9) := HOA.out.bel.trans ((Turn.grown (v := (.slice iva rin.length ivc2)) hg9).below HNA.out (fun k hk => (ownsRow_lt HOA.out.ri.ro hk).1))
            clear hn9 hg9 hp9 hb9 hO9
            refine hK.out _ _ (HB9.out) (fun hHeld => ?_)
            clear hK K
            rename_i hOld
            clear hOld
            (try simp only [Act.put, List.getElem_toArray, List.getElem_cons_zero, List.getElem_cons_succ, List.setIfInBounds_toArray, List.set_cons_zero, List.set_cons_succ])
            refine wpAnyH_take (i := 9) (v := .pointer (some ⟨w1.heap.size, 0, none⟩)) rfl (by kernel_rfl) (by kernel_rfl) (by kernel_rfl) (fun _ _ _ h => h) (Or.inl ⟨by rfl, ?_⟩) (by assumption) ?_
            · intro w' hSw; go_simp
            (try simp only [Act.put, List.getElem_toArray, List.getElem_cons_zero, List.getElem_cons_succ, List.setIfInBounds_toArray, List.set_cons_zero, List.set_cons_succ])
            refine wpAnyH_ready (rs := [10]) (by kernel_rfl) (by simp) (AllReadyH.cons rfl (fun K hK => ?_) AllReadyH.nil)
            go_simp
            refine hK.out _ _ (HO9.out.bel) (fun hHeld => ?_)
            clear hK K
            rename_i hOld
            clear hOld
            (try simp only [Act.put, List.getElem_toArray, List.getElem_cons_zero, List.getElem_cons_succ, List.setIfInBounds_toArray, List.set_cons_zero, List.set_cons_succ])
            refine wpAnyH_done (by kernel_rfl) ?_ _
            exact ⟨_, _, _, _, _, _, _, _, _, _, by (simp only [List.setIfInBounds_toArray, List.set_cons_zero, List.set_cons_succ]; rfl), _, _, HO9.out⟩
          · go_simp
            have HOA := Lib.hid (HO6.out.keep ((Below.refl w6.heap.size w6).alloc (Nat.le_refl _) (.cells #[.slice la (listB sIn).length lc] 39)) HN6.out)
            have HNA : Hid (w1.heap.size ≤ (w6.alloc (.cells #[.slice la (listB sIn).length lc] 39)).heap.size) := by show _ ≤ _; have := HN6.out; simp; omega
            have HIA := Lib.hid (HI6.out.keep ((Below.refl w6.heap.size w6).alloc (Nat.le_refl _) (.cells #[.slice la (listB sIn).length lc] 39)))
            have HCA : Hid ((w6.alloc (.cells #[.slice la (listB sIn).length lc] 39)).cell? ((⟨w6.heap.size, 0, none⟩ : Addr).add 0) = some (.slice la (listB sIn).length lc)) := World.cell?_alloc_new _ _ _ 0
            refine hK.out _ _ (HOA.out.bel) (fun hHeld => ?_)
            clear hK K
            rename_i hOld
            clear hOld
            (try simp only [Act.put, List.getElem_toArray, List.getElem_cons_zero, List.getElem_cons_succ, List.setIfInBounds_toArray, List.set_cons_zero, List.set_cons_succ])
            obtain ⟨r0, r1⟩ := two_cells HOA.out.box
            refine wpAnyH_ready (rs := [1]) (by kernel_rfl) (by simp) (AllReadyH.cons rfl (fun K hK => ?_) AllReadyH.nil)
            go_simp
            refine hK.out _ _ (hHeld) (fun hHeld => ?_)
            clear hK K
            rename_i hOld
            clear hOld
            (try simp only [Act.put, List.getElem_toArray, List.getElem_cons_zero, List.getElem_cons_succ, List.setIfInBounds_toArray, List.set_cons_zero, List.set_cons_succ])
            refine wpAnyH_ready (rs := [8]) (by kernel_rfl) (by simp) (AllReadyH.cons rfl (fun K hK => ?_) AllReadyH.nil)
            refine step_append_row rfl (.tmp 24) (.tmp 30) 28 rfl w1.heap.size 39 i0 _ 1 24 Tryd.underlying28 hi hz0 hz1 hz2 rfl (by decide) (.slice iva rin.length ivc2) rin.length (rin.map (·.1)) (by simp [Act.eval]) HOA.out.ri.ro ⟨w6.heap.size, 0, none⟩ 1 1 [.slice la (listB sIn).length lc] (by simp [Act.eval]) rfl ?d1 ?d2 (by decide) (by unfold maxLen; have := HLR.out; omega) (by have := HLR.out; omega) HOA.out.bel.size ?_
            case d1 => intro jj q hq; match jj, hq with | 0, hq => simp at hq; subst hq; exact HCA.out
            case d2 => intro q hq; simp at hq; subst hq; rfl
            intro g9 cap9 w9 hn9 hg9 hp9
            obtain ⟨hb9, hO9⟩ := HOA.out.addIn HNA.out HIA.out hg9 hn9 (by rcases hp9 with h | h; exact .inl h; exact .inr ⟨g9, rfl, h⟩)
            have HO9 := Lib.hid hO9
            have q9 : w9.cell? ⟨w1.heap.size, 0, none⟩ = some (.slice iva rin.length ivc2) := cell_heap hb9 0
            have y9 : w9.frozen? ⟨w1.heap.size, 0, none⟩ = false := frozen_heap hb9 0
            have HB9 : Hid (Below w1.heap.size w1 w9) := HOA.out.bel.trans ((Turn.grown (v := (.slice iva rin.length ivc2)) hg9).below HNA.out (fun k hk => (ownsRow_lt HOA.out.ri.ro hk).1))
            clear hn9 hg9 hp9 hb9 hO9
            refine hK.out _ _ (HB9.out) (fun hHeld => ?_)
            clear hK K
            rename_i hOld
            clear hOld
            (try simp only [Act.put, List.getElem_toArray, List.getElem_cons_zero, List.getElem_cons_succ, List.setIfInBounds_toArray, List.set_cons_zero, List.set_cons_succ])
            refine wpAnyH_take (i := 9) (v := .pointer (some ⟨w1.heap.size, 0, none⟩)) rfl (by kernel_rfl) (by kernel_rfl) (by kernel_rfl) (fun _ _ _ h => h) (Or.inl ⟨by rfl, ?_⟩) (by assumption) ?_
            · intro w' hSw; go_simp
            (try simp only [Act.put, List.getElem_toArray, List.getElem_cons_zero, List.getElem_cons_succ, List.setIfInBounds_toArray, List.set_cons_zero, List.set_cons_succ])
            refine wpAnyH_ready (rs := [10]) (by kernel_rfl) (by simp) (AllReadyH.cons rfl (fun K hK => ?_) AllReadyH.nil)
            go_simp
            refine hK.out _ _ (HO9.out.bel) (fun hHeld => ?_)
            clear hK K
            rename_i hOld
            clear hOld
            (try simp only [Act.put, List.getElem_toArray, List.getElem_cons_zero, List.getElem_cons_succ, List.setIfInBounds_toArray, List.set_cons_zero, List.set_cons_succ])
            refine wpAnyH_done (by kernel_rfl) ?_ _
            exact ⟨_, _, _, _, _, _, _, _, _, _, by (simp only [List.setIfInBounds_toArray, List.set_cons_zero, List.set_cons_succ]; rfl), _, _, HO9.out⟩
      · rintro a' Wb ⟨y0, y1, y2, y3, y4, y5, y6, y7, y8, y9, rfl, iv', u', hO2⟩
        simp only [List.setIfInBounds_toArray, List.set_cons_zero, List.set_cons_succ]
        have HO2 := Lib.hid hO2
        have hnb : w1.heap.size ≤ Wb.heap.size := hO2.bel.size
        have HNB := Lib.hid hnb
        clear hO2 hnb
        go_wp2_with fail
        refine cut_wp (ROut w1.heap.size w1 iv' (rin ++ [(u', listB sIn)]) rout (listB sOut)) ?_ ?_
        · skip
          have HOD : Hid (OfSt w1.heap.size w1 Wb.drew iv' (.slice ova rout.length ovc2) (rin ++ [(u', listB sIn)]) rout) := HO2.out.keep (Below.refl _ _).drew HNB.out
          have HND : Hid (w1.heap.size ≤ Wb.drew.heap.size) := HNB.out
          refine wp_region_held_drew (S := Below w1.heap.size w1) (by kernel_rfl) HOD.out.bel (fun hHeld => ?_)
          have HOC := HOD
          have HNC := HND
          obtain ⟨r0, r1⟩ := two_cells HOD.out.box
          generalize hwd : Wb.drew = D at hHeld HOD HOC HND HNC r0 r1 ⊢
          clear hwd
          refine wpAnyH_take (i := 0) (v := .pointer (some ⟨w1.heap.size, 1, none⟩)) rfl (by kernel_rfl) (by kernel_rfl) (by kernel_rfl) (fun _ _ _ h => h) (Or.inl ⟨by rfl, ?_⟩) (by assumption) ?_
          · intro w' hSw; go_simp
          (try simp only [Act.put, List.getElem_toArray, List.getElem_cons_zero, List.setIfInBounds_toArray, List.set_cons_zero, List.set_cons_succ])
          refine wpAnyH_take (i := 2) (v := .slice (some ⟨ob, 0, none⟩) n ovc) rfl (by kernel_rfl) (by kernel_rfl) (by kernel_rfl) (fun _ _ _ h => h) (Or.inl ⟨by rfl, ?_⟩) (by assumption) ?_
          · intro w' hSw; go_simp
          (try simp only [Act.put, List.getElem_toArray, List.getElem_cons_zero, List.getElem_cons_succ, List.setIfInBounds_toArray, List.set_cons_zero, List.set_cons_succ])
          refine wpAnyH_take (i := 3) (v := .int .i64 (j : Int)) rfl (by kernel_rfl) (by kernel_rfl) (by kernel_rfl) (fun _ _ _ h => h) (Or.inl ⟨by rfl, ?_⟩) (by assumption) ?_
          · intro w' hSw; go_simp
          (try simp only [Act.put, List.getElem_toArray, List.getElem_cons_zero, List.getElem_cons_succ, List.setIfInBounds_toArray, List.set_cons_zero, List.set_cons_succ])
          refine wpAnyH_take (i := 4) (v := .pointer (some ⟨ob, j, none⟩)) rfl (by kernel_rfl) (by kernel_rfl) (by kernel_rfl) (fun _ _ _ h => h) (Or.inl ⟨by rfl, ?_⟩) (by assumption) ?_
          · intro w' hSw; go_simp
          (try simp only [Act.put, List.getElem_toArray, List.getElem_cons_zero, List.getElem_cons_succ, List.setIfInBounds_toArray, List.set_cons_zero, List.set_cons_succ])
          refine wpAnyH_take (i := 5) (v := .slice vOuta (nw R) vOutc) rfl (by kernel_rfl) (by kernel_rfl) (by kernel_rfl) (fun _ _ _ h => h) (Or.inl ⟨by rfl, ?_⟩) (by assumption) ?_
          · intro w' hSw; have q0 := (HVSOut.out _ hSw).1; clear hSw; go_simp
          (try simp only [Act.put, List.getElem_toArray, List.getElem_cons_zero, List.getElem_cons_succ, List.setIfInBounds_toArray, List.set_cons_zero, List.set_cons_succ])
          refine wpAnyH_ready (rs := [1, 6]) (by kernel_rfl) (by simp) (AllReadyH.cons rfl (fun K hK => ?_) (AllReadyH.cons rfl (fun K hK => ?_) AllReadyH.nil))
          · go_simp
            refine hK.out _ _ (hHeld) (fun hHeld => ?_)
            clear hK K
            rename_i hOld
            clear hOld
            (try simp only [Act.put, List.getElem_toArray, List.getElem_cons_zero, List.getElem_cons_succ, List.setIfInBounds_toArray, List.set_cons_zero, List.set_cons_succ])
            refine wpAnyH_ready (rs := [6]) (by kernel_rfl) (by simp) (AllReadyH.cons rfl (fun K hK => ?_) AllReadyH.nil)
            go_simp
            refine (list_any _ (HVSOut.out _ hHeld).2.1 (tab_keep HTAB.out (HVSOut.out _ hHeld).2.2)).mono ?_
            rintro e w6 ⟨ul, rfl, hI, hB6⟩
            obtain ⟨la, lc, rfl⟩ := hI.val
            have HO6 := Lib.hid (HOC.out.keep hB6 HNC.out)
            have HN6 : Hid (w1.heap.size ≤ w6.heap.size) := Nat.le_trans HNC.out hB6.size
            have HI6 : Hid (IntRow w1.heap.size w6 (.slice la (listB sOut).length lc) (listB sOut)) := ownsRow_base hI HNC.out
            clear hI hB6
            refine hK.out _ _ (HO6.out.bel) (fun hHeld => ?_)
            clear hK K
            rename_i hOld
            clear hOld
            (try simp only [Act.put, List.getElem_toArray, List.getElem_cons_zero, List.getElem_cons_succ, List.setIfInBounds_toArray, List.set_cons_zero, List.set_cons_succ])
            refine wpAnyH_ready (rs := [7]) (by kernel_rfl) (by simp) (AllReadyH.cons rfl (fun K hK => ?_) AllReadyH.nil)
            go_simp
            have HOA := Lib.hid (HO6.out.keep ((Below.refl w6.heap.size w6).alloc (Nat.le_refl _) (.cells #[.slice la (listB sOut).length lc] 39)) HN6.out)
            have HNA : Hid (w1.heap.size ≤ (w6.alloc (.cells #[.slice la (listB sOut).length lc] 39)).heap.size) := by show _ ≤ _; have := HN6.out; simp; omega
            have HIA := Lib.hid (HI6.out.keep ((Below.refl w6.heap.size w6).alloc (Nat.le_refl _) (.cells #[.slice la (listB sOut).length lc] 39)))
            have HCA : Hid ((w6.alloc (.cells #[.slice la (listB sOut).length lc] 39)).cell? ((⟨w6.heap.size, 0, none⟩ : Addr).add 0) = some (.slice la (listB sOut).length lc)) := World.cell?_alloc_new _ _ _ 0
            refine hK.out _ _ (HOA.out.bel) (fun hHeld => ?_)
            clear hK K
            rename_i hOld
            clear hOld
            (try simp only [Act.put, List.getElem_toArray, List.getElem_cons_zero, List.getElem_cons_succ, List.setIfInBounds_toArray, List.set_cons_zero, List.set_cons_succ])
            refine wpAnyH_ready (rs := [8]) (by kernel_rfl) (by simp) (AllReadyH.cons rfl (fun K hK => ?_) AllReadyH.nil)
  
            refine step_append_row rfl (.tmp 34) (.tmp 40) 28 rfl w1.heap.size 39 i0 _ 1 24 Tryd.underlying28 hi hz0 hz1 hz2 rfl (by decide) (.slice ova rout.length ovc2) rout.length (rout.map (·.1)) (by simp [Act.eval]) HOA.out.ro.ro ⟨w6.heap.size, 0, none⟩ 1 1 [.slice la (listB sOut).length lc] (by simp [Act.eval]) rfl ?d1 ?d2 (by decide) (by unfold maxLen; have := HLR.out; omega) (by have := HLR.out; omega) HOA.out.bel.size ?_
            case d1 => intro jj q hq; match jj, hq with | 0, hq => simp at hq; subst hq; exact HCA.out
            case d2 => intro q hq; simp at hq; subst hq; rfl
            intro g9 cap9 w9 hn9 hg9 hp9
            obtain ⟨hb9, hO9⟩ := HOA.out.addOut HNA.out HIA.out hg9 hn9 (by rcases hp9 with h | h; exact .inl h; exact .inr ⟨g9, rfl, h⟩)
            have HO9 := Lib.hid hO9
            have q9 : w9.cell? ⟨w1.heap.size, 1, none⟩ = some (.slice ova rout.length ovc2) := cell_heap hb9 1
            have y9 : w9.frozen? ⟨w1.heap.size, 1, none⟩ = false := frozen_heap hb9 1
            have HB9 : Hid (Below w1.heap.size w1 w9) := HOA.out.bel.trans ((Turn.grown (v := (.slice ova rout.length ovc2)) hg9).below HNA.out (fun k hk => (ownsRow_lt HOA.out.ro.ro hk).1))
            clear hn9 hg9 hp9 hb9 hO9
            refine hK.out _ _ (HB9.out) (fun hHeld => ?_)
            clear hK K
            rename_i hOld
            clear hOld
            (try simp only [Act.put, List.getElem_toArray, List.getElem_cons_zero, List.getElem_cons_succ, List.setIfInBounds_toArray, List.set_cons_zero, List.set_cons_succ])
            refine wpAnyH_take (i := 9) (v := .pointer (some ⟨w1.heap.size, 1, none⟩)) rfl (by kernel_rfl) (by kernel_rfl) (by kernel_rfl) (fun _ _ _ h => h) (Or.inl ⟨by rfl, ?_⟩) (by assumption) ?_
            · intro w' hSw; go_simp
            (try simp only [Act.put, List.getElem_toArray, List.getElem_cons_zero, List.getElem_cons_succ, List.setIfInBounds_toArray, List.set_cons_zero, List.set_cons_succ])
            refine wpAnyH_ready (rs := [10]) (by kernel_rfl) (by simp) (AllReadyH.cons rfl (fun K hK => ?_) AllReadyH.nil)
            go_simp
            refine hK.out _ _ (HO9.out.bel) (fun hHeld => ?_)
            clear hK K
            rename_i hOld
            clear hOld
            (try simp only [Act.put, List.getElem_toArray, List.getElem_cons_zero, List.getElem_cons_succ, List.setIfInBounds_toArray, List.set_cons_zero, List.set_cons_succ])
            refine wpAnyH_done (by kernel_rfl) ?_ _
            exact ⟨_, _, _, _, _, _, _, _, _, _, by (simp only [List.setIfInBounds_toArray, List.set_cons_zero, List.set_cons_succ]; rfl), _, _, HO9.out⟩
          · go_simp
            refine (list_any _ (HVSOut.out _ hHeld).2.1 (tab_keep HTAB.out (HVSOut.out _ hHeld).2.2)).mono ?_
            rintro e w6 ⟨ul, rfl, hI, hB6⟩
            obtain ⟨la, lc, rfl⟩ := hI.val
            have HO6 := Lib.hid (HOC.out.keep hB6 HNC.out)
            have HN6 : Hid (w1.heap.size ≤ w6.heap.size) := Nat.le_trans HNC.out hB6.size
            have HI6 : Hid (IntRow w1.heap.size w6 (.slice la (listB sOut).length lc) (listB sOut)) := ownsRow_base hI HNC.out
            clear hI hB6
            refine hK.out _ _ (HO6.out.bel) (fun hHeld => ?_)
            clear hK K
            rename_i hOld
            clear hOld
            (try simp only [Act.put, List.getElem_toArray, List.getElem_cons_zero, List.getElem_cons_succ, List.setIfInBounds_toArray, List.set_cons_zero, List.set_cons_succ])
            obtain ⟨r0, r1⟩ := two_cells HO6.out.box
            refine wpAnyH_ready (rs := [1, 7]) (by kernel_rfl) (by simp) (AllReadyH.cons rfl (fun K hK => ?_) (AllReadyH.cons rfl (fun K hK => ?_) AllReadyH.nil))
            · go_simp
              refine hK.out _ _ (hHeld) (fun hHeld => ?_)
              clear hK K
              rename_i hOld
              clear hOld
              (try simp only [Act.put, List.getElem_toArray, List.getElem_cons_zero, List.getElem_cons_succ, List.setIfInBounds_toArray, List.set_cons_zero, List.set_cons_succ])
              refine wpAnyH_ready (rs := [7]) (by kernel_rfl) (by simp) (AllReadyH.cons rfl (fun K hK => ?_) AllReadyH.nil)
              go_simp
              have HOA := Lib.hid (HO6.out.keep ((Below.refl w6.heap.size w6).alloc (Nat.le_refl _) (.cells #[.slice la (listB sOut).length lc] 39)) HN6.out)
              have HNA : Hid (w1.heap.size ≤ (w6.alloc (.cells #[.slice la (listB sOut).length lc] 39)).heap.size) := by show _ ≤ _; have := HN6.out; simp; omega
              have HIA := Lib.hid (HI6.out.keep ((Below.refl w6.heap.size w6).alloc (Nat.le_refl _) (.cells #[.slice la (listB sOut).length lc] 39)))
              have HCA : Hid ((w6.alloc (.cells #[.slice la (listB sOut).length lc] 39)).cell? ((⟨w6.heap.size, 0, none⟩ : Addr).add 0) = some (.slice la (listB sOut).length lc)) := World.cell?_alloc_new _ _ _ 0
              refine hK.out _ _ (HOA.out.bel) (fun hHeld => ?_)
              clear hK K
              rename_i hOld
              clear hOld
              (try simp only [Act.put, List.getElem_toArray, List.getElem_cons_zero, List.getElem_cons_succ, List.setIfInBounds_toArray, List.set_cons_zero, List.set_cons_succ])
              refine wpAnyH_ready (rs := [8]) (by kernel_rfl) (by simp) (AllReadyH.cons rfl (fun K hK => ?_) AllReadyH.nil)
              refine step_append_row rfl (.tmp 34) (.tmp 40) 28 rfl w1.heap.size 39 i0 _ 1 24 Tryd.underlying28 hi hz0 hz1 hz2 rfl (by decide) (.slice ova rout.length ovc2) rout.length (rout.map (·.1)) (by simp [Act.eval]) HOA.out.ro.ro ⟨w6.heap.size, 0, none⟩ 1 1 [.slice la (listB sOut).length lc] (by simp [Act.eval]) rfl ?d1 ?d2 (by decide) (by unfold maxLen; have := HLR.out; omega) (by have := HLR.out; omega) HOA.out.bel.size ?_
              case d1 => intro jj q hq; match jj, hq with | 0, hq => simp at hq; subst hq; exact HCA.out
              case d2 => intro q hq; simp at hq; subst hq; rfl
              intro g9 cap9 w9 hn9 hg9 hp9
              obtain ⟨hb9, hO9⟩ := HOA.out.addOut HNA.out HIA.out hg9 hn9 (by rcases hp9 with h | h; exact .inl h; exact .inr ⟨g9, rfl, h⟩)
              have HO9 := Lib.hid hO9
              have q9 : w9.cell? ⟨w1.heap.size, 1, none⟩ = some (.slice ova rout.length ovc2) := cell_heap hb9 1
              have y9 : w9.frozen? ⟨w1.heap.size, 1, none⟩ = false := frozen_heap hb9 1
              have HB9 : Hid (Below w1.heap.size w1 w9) := HOA.out.bel.trans ((Turn.grown (v := (.slice ova rout.length ovc2)) hg9).below HNA.out (fun k hk => (ownsRow_lt HOA.out.ro.ro hk).1))
              clear hn9 hg9 hp9 hb9 hO9
              refine hK.out _ _ (HB9.out) (fun hHeld => ?_)
              clear hK K
              rename_i hOld
              clear hOld
              (try simp only [Act.put, List.getElem_toArray, List.getElem_cons_zero, List.getElem_cons_succ, List.setIfInBounds_toArray, List.set_cons_zero, List.set_cons_succ])
              refine wpAnyH_take (i := 9) (v := .pointer (some ⟨w1.heap.size, 1, none⟩)) rfl (by kernel_rfl) (by kernel_rfl) (by kernel_rfl) (fun _ _ _ h => h) (Or.inl ⟨by rfl, ?_⟩) (by assumption) ?_
              · intro w' hSw; go_simp
              (try simp only [Act.put, List.getElem_toArray, List.getElem_cons_zero, List.getElem_cons_succ, List.setIfInBounds_toArray, List.set_cons_zero, List.set_cons_succ])
              refine wpAnyH_ready (rs := [10]) (by kernel_rfl) (by simp) (AllReadyH.cons rfl (fun K hK => ?_) AllReadyH.nil)
              go_simp
              refine hK.out _ _ (HO9.out.bel) (fun hHeld => ?_)
              clear hK K
              rename_i hOld
              clear hOld
              (try simp only [Act.put, List.getElem_toArray, List.getElem_cons_zero, List.getElem_cons_succ, List.setIfInBounds_toArray, List.set_cons_zero, List.set_cons_succ])
              refine wpAnyH_done (by kernel_rfl) ?_ _
              exact ⟨_, _, _, _, _, _, _, _, _, _, by (simp only [List.setIfInBounds_toArray, List.set_cons_zero, List.set_cons_succ]; rfl), _, _, HO9.out⟩
            · go_simp
              have HOA := Lib.hid (HO6.out.keep ((Below.refl w6.heap.size w6).alloc (Nat.le_refl _) (.cells #[.slice la (listB sOut).length lc] 39)) HN6.out)
              have HNA : Hid (w1.heap.size ≤ (w6.alloc (.cells #[.slice la (listB sOut).length lc] 39)).heap.size) := by show _ ≤ _; have := HN6.out; simp; omega
              have HIA := Lib.hid (HI6.out.keep ((Below.refl w6.heap.size w6).alloc (Nat.le_refl _) (.cells #[.slice la (listB sOut).length lc] 39)))
              have HCA : Hid ((w6.alloc (.cells #[.slice la (listB sOut).length lc] 39)).cell? ((⟨w6.heap.size, 0, none⟩ : Addr).add 0) = some (.slice la (listB sOut).length lc)) := World.cell?_alloc_new _ _ _ 0
              refine hK.out _ _ (HOA.out.bel) (fun hHeld => ?_)
              clear hK K
              rename_i hOld
              clear hOld
              (try simp only [Act.put, List.getElem_toArray, List.getElem_cons_zero, List.getElem_cons_succ, List.setIfInBounds_toArray, List.set_cons_zero, List.set_cons_succ])
              obtain ⟨r0, r1⟩ := two_cells HOA.out.box
              refine wpAnyH_ready (rs := [1]) (by kernel_rfl) (by simp) (AllReadyH.cons rfl (fun K hK => ?_) AllReadyH.nil)
              go_simp
              refine hK.out _ _ (hHeld) (fun hHeld => ?_)
              clear hK K
              rename_i hOld
              clear hOld
              (try simp only [Act.put, List.getElem_toArray, List.getElem_cons_zero, List.getElem_cons_succ, List.setIfInBounds_toArray, List.set_cons_zero, List.set_cons_succ])
              refine wpAnyH_ready (rs := [8]) (by kernel_rfl) (by simp) (AllReadyH.cons rfl (fun K hK => ?_) AllReadyH.nil)
              refine step_append_row rfl (.tmp 34) (.tmp 40) 28 rfl w1.heap.size 39 i0 _ 1 24 Tryd.underlying28 hi hz0 hz1 hz2 rfl (by decide) (.slice ova rout.length ovc2) rout.length (rout.map (·.1)) (by simp [Act.eval]) HOA.out.ro.ro ⟨w6.heap.size, 0, none⟩ 1 1 [.slice la (listB sOut).length lc] (by simp [Act.eval]) rfl ?d1 ?d2 (by decide) (by unfold maxLen; have := HLR.out; omega) (by have := HLR.out; omega) HOA.out.bel.size ?_
              case d1 => intro jj q hq; match jj, hq with | 0, hq => simp at hq; subst hq; exact HCA.out
              case d2 => intro q hq; simp at hq; subst hq; rfl
              intro g9 cap9 w9 hn9 hg9 hp9
              obtain ⟨hb9, hO9⟩ := HOA.out.addOut HNA.out HIA.out hg9 hn9 (by rcases hp9 with h | h; exact .inl h; exact .inr ⟨g9, rfl, h⟩)
              have HO9 := Lib.hid hO9
              have q9 : w9.cell? ⟨w1.heap.size, 1, none⟩ = some (.slice ova rout.length ovc2) := cell_heap hb9 1
              have y9 : w9.frozen? ⟨w1.heap.size, 1, none⟩ = false := frozen_heap hb9 1
              have HB9 : Hid (Below w1.heap.size w1 w9) := HOA.out.bel.trans ((Turn.grown (v := (.slice ova rout.length ovc2)) hg9).below HNA.out (fun k hk => (ownsRow_lt HOA.out.ro.ro hk).1))
              clear hn9 hg9 hp9 hb9 hO9
              refine hK.out _ _ (HB9.out) (fun hHeld => ?_)
              clear hK K
              rename_i hOld
              clear hOld
              (try simp only [Act.put, List.getElem_toArray, List.getElem_cons_zero, List.getElem_cons_succ, List.setIfInBounds_toArray, List.set_cons_zero, List.set_cons_succ])
              refine wpAnyH_take (i := 9) (v := .pointer (some ⟨w1.heap.size, 1, none⟩)) rfl (by kernel_rfl) (by kernel_rfl) (by kernel_rfl) (fun _ _ _ h => h) (Or.inl ⟨by rfl, ?_⟩) (by assumption) ?_
              · intro w' hSw; go_simp
              (try simp only [Act.put, List.getElem_toArray, List.getElem_cons_zero, List.getElem_cons_succ, List.setIfInBounds_toArray, List.set_cons_zero, List.set_cons_succ])
              refine wpAnyH_ready (rs := [10]) (by kernel_rfl) (by simp) (AllReadyH.cons rfl (fun K hK => ?_) AllReadyH.nil)
              go_simp
              refine hK.out _ _ (HO9.out.bel) (fun hHeld => ?_)
              clear hK K
              rename_i hOld
              clear hOld
              (try simp only [Act.put, List.getElem_toArray, List.getElem_cons_zero, List.getElem_cons_succ, List.setIfInBounds_toArray, List.set_cons_zero, List.set_cons_succ])
              refine wpAnyH_done (by kernel_rfl) ?_ _
              exact ⟨_, _, _, _, _, _, _, _, _, _, by (simp only [List.setIfInBounds_toArray, List.set_cons_zero, List.set_cons_succ]; rfl), _, _, HO9.out⟩
        · rintro a' Wc ⟨z0, z1, z2, z3, z4, z5, z6, z7, z8, z9, rfl, ov', u2', hO3⟩
          simp only [List.setIfInBounds_toArray, List.set_cons_zero, List.set_cons_succ]
          have HO3 := Lib.hid hO3
          have HR1 : Hid ((rin ++ [(u', listB sIn)]).map (fun q : Value × List Int => q.2) = ((ins.map (·.2)).take (j + 1)).map listB) := by
            show _ = _
            rw [List.map_append, HRI.out, take_snoc (show (ins.map (·.2))[j]? = some sIn by rw [List.getElem?_map, HVI.out]; rfl), List.map_append]
            rfl
          have HR2 : Hid ((rout ++ [(u2', listB sOut)]).map (fun q : Value × List Int => q.2) = ((outs.map (·.2)).take (j + 1)).map listB) := by
            show _ = _
            rw [List.map_append, HRO.out, take_snoc (show (outs.map (·.2))[j]? = some sOut by rw [List.getElem?_map, HVO.out]; rfl), List.map_append]
            rfl
          clear hO3
          go_wp2_with fail
          exact ⟨⟨j + 1, _, _, _, _, by omega, by go_num, HO3.out, HR1.out, HR2.out⟩, by simp [intOf]; omega⟩
    · obtain rfl : j = n := by omega
      obtain ⟨p0, p1⟩ := two_cells HO.out.box
      have hzz : wr.heap[w.heap.size + 1]? = some (.cells #[.slice none 0 0, .slice none 0 0] 30) := by
        have h9 := HB1.out.block (w.heap.size + 1) (by have := HWS.out; omega)
        have h8 := HO.out.bel.block (w.heap.size + 1) (by have := HB1.out.size; have := HWS.out; omega)
        exact h8.trans (h9.trans HZ.out)
      obtain ⟨p2, p3⟩ := two_cells hzz
      have p4 := frozen_heap hzz 0
      have p5 := frozen_heap hzz 1
      have hzb : w.heap.size + 1 < w1.heap.size := by have := HB1.out.size; have := HWS.out; omega
      have hl1 : (wr.setCell ⟨w.heap.size + 1, 0, none⟩ (.slice iva rin.length ivc2)).heap[w.heap.size + 1]? = some (.cells #[.slice iva rin.length ivc2, .slice none 0 0] 30) := by rw [setCell_heap hzz]; rfl
      have hl2 : ((wr.setCell ⟨w.heap.size + 1, 0, none⟩ (.slice iva rin.length ivc2)).setCell ⟨w.heap.size + 1, 1, none⟩ (.slice ova rout.length ovc2)).heap[w.heap.size + 1]? = some (.cells #[.slice iva rin.length ivc2, .slice ova rout.length ovc2] 30) := by rw [setCell_heap hl1]; rfl
      have HRA := Lib.hid ((HO.out.ri.box hzz (o := 0) (u := .slice iva rin.length ivc2) (by decide) (by decide)).box hl1 (o := 1) (u := .slice ova rout.length ovc2) (by decide) (by decide))
      have HRB := Lib.hid ((HO.out.ro.box hzz (o := 0) (u := .slice iva rin.length ivc2) (by decide) (by decide)).box hl1 (o := 1) (u := .slice ova rout.length ovc2) (by decide) (by decide))
      have HBZ : Hid (Below w.heap.size w ((wr.setCell ⟨w.heap.size + 1, 0, none⟩ (.slice iva rin.length ivc2)).setCell ⟨w.heap.size + 1, 1, none⟩ (.slice ova rout.length ovc2))) := by
        show Below _ _ _
        have h9 := HBW.out.trans (HB1.out.mono HBW.out.size)
        exact ((h9.trans (HO.out.bel.mono h9.size)).setCell (show w.heap.size ≤ w.heap.size + 1 by omega) _).setCell (show w.heap.size ≤ w.heap.size + 1 by omega) _
      have HL2 := Lib.hid hl2
      clear hzz hl1 hl2
      go_wp2_with fail
      generalize World.setCell _ _ _ = X at HRA HRB HBZ HL2 ⊢
      obtain ⟨e0, e1⟩ := two_cells HL2.out
      have hwl : w.heap.size ≤ w1.heap.size := by omega
      refine bodyPost_ret (v := .tuple #[.agg #[.slice iva rin.length ivc2, .slice ova rout.length ovc2], .int .i64 0]) (by simp [results, Tryd.results12, go_sem, e0, e1]) rfl ?_
      refine ⟨_, _, rin, rout, ins.map (·.2), outs.map (·.2), rfl, HRA.out.base hwl, HRB.out.base hwl, HSOL.out, ?_, ?_, HBZ.out⟩
      · have := HRI.out
        rwa [← HLL.out.1, ← List.length_map (f := fun q : Value × Nat => q.2), List.take_length] at this
      · have := HRO.out
        rwa [← HLL.out.2, ← List.length_map (f := fun q : Value × Nat => q.2), List.take_length] at this
theorem of_none (f : Fn) (aa ba : Option Addr) (ac bc : Nat) (w : World) (hf : FnAt w f aa ba) (hF : ¬ FormF f) (hbl : f.blocks.length ≤ 1000) (hcl : ∀ b ∈ f.blocks, b.code.length ≤ 1000000) :
    Calls Tryd.prog 12 #[fnVal f.name f.regs aa f.arrays.length ac ba f.blocks.length bc] w (fun e w' => e = .returned (.tuple #[.agg #[.slice none 0 0, .slice none 0 0], .int .i64 3]) ∧ Below w.heap.size w w') := by
  have HF := Lib.hid hf
  have HFF := Lib.hid hF
  have HCL := Lib.hid hcl
  obtain ⟨n, hn⟩ : ∃ n, f.blocks.length = n := ⟨_, rfl⟩
  have HN := Lib.hid hn
  obtain ⟨W, hW⟩ : ∃ W : World, (w.alloc (.cells #[.string f.name, .int .i64 f.regs, .slice aa f.arrays.length ac, .slice ba n bc] 25)).alloc (.cells #[.slice none 0 0, .slice none 0 0] 30) = W := ⟨_, rfl⟩
  have hWs : W.heap.size = w.heap.size + 2 := by rw [← hW]; simp
  have HBW : Hid (Below w.heap.size w W) := by show Below _ _ _; rw [← hW]; exact ((Below.refl _ _).alloc (Nat.le_refl _) _).alloc (by simp) _
  have HX : Hid (W.heap[w.heap.size]? = some (.cells #[.string f.name, .int .i64 f.regs, .slice aa f.arrays.length ac, .slice ba n bc] 25)) := by
    show _ = _
    rw [← hW, Below.heap_alloc _ _ _ (by simp)]
    exact (MapKept.heap_alloc w _).1
  have HZ : Hid (W.heap[w.heap.size + 1]? = some (.cells #[.slice none 0 0, .slice none 0 0] 30)) := by
    show _ = _
    rw [← hW]
    exact MapKept.heap_alloc (w.alloc _) _ |>.1 |> fun h => by simpa using h
  have x0 : W.cell? ⟨w.heap.size, 0, none⟩ = some (.string f.name) := cell_heap HX.out 0
  have x1 : W.cell? ⟨w.heap.size, 1, none⟩ = some (.int .i64 f.regs) := cell_heap HX.out 1
  have x2 : W.cell? ⟨w.heap.size, 2, none⟩ = some (.slice aa f.arrays.length ac) := cell_heap HX.out 2
  have x3 : W.cell? ⟨w.heap.size, 3, none⟩ = some (.slice ba n bc) := cell_heap HX.out 3
  have QF : Hid (∀ w', Below w.heap.size w w' → Calls Tryd.prog 40 #[.agg #[.string f.name, .int .i64 f.regs, .slice aa f.arrays.length ac, .slice ba n bc]] w' (fun e w'' => e = .returned (.bool false) ∧ Below w'.heap.size w' w'')) := fun w' h => by
    have h9 := wellFormed_any f aa ba ac bc w' (HF.out.below h) (by rw [HN.out]; omega) HCL.out
    rw [HN.out] at h9
    refine h9.mono fun e w'' ⟨r, he, hr, hB⟩ => ⟨?_, hB⟩
    cases r with
    | true => exact absurd (hr.1 rfl) HFF.out
    | false => exact he
  rw [hn]
  rw [hn] at hbl
  clear hf hF hcl hn
  go_enter Tryd.func12, Tryd.ntmps12
  go_wp2_with fail
  clear hW x0 x1 x2 x3
  refine (QF.out _ HBW.out).mono ?_
  rintro e w0 ⟨rfl, hB⟩
  have hzz : w0.heap[w.heap.size + 1]? = some (.cells #[.slice none 0 0, .slice none 0 0] 30) := (hB.block _ (by omega)).trans HZ.out
  have hl1 : (w0.setCell ⟨w.heap.size + 1, 0, none⟩ (.slice none 0 0)).heap[w.heap.size + 1]? = some (.cells #[.slice none 0 0, .slice none 0 0] 30) := by rw [setCell_heap hzz]; rfl
  have hl2 : ((w0.setCell ⟨w.heap.size + 1, 0, none⟩ (.slice none 0 0)).setCell ⟨w.heap.size + 1, 1, none⟩ (.slice none 0 0)).heap[w.heap.size + 1]? = some (.cells #[.slice none 0 0, .slice none 0 0] 30) := by rw [setCell_heap hl1]; rfl
  have HBZ : Hid (Below w.heap.size w ((w0.setCell ⟨w.heap.size + 1, 0, none⟩ (.slice none 0 0)).setCell ⟨w.heap.size + 1, 1, none⟩ (.slice none 0 0))) := by
    show Below _ _ _
    exact ((below_step HBW.out hB).setCell (show w.heap.size ≤ w.heap.size + 1 by omega) _).setCell (show w.heap.size ≤ w.heap.size + 1 by omega) _
  have HL2 := Lib.hid hl2
  obtain ⟨p2, p3⟩ := two_cells hzz
  have p4 := frozen_heap hzz 0
  have p5 := frozen_heap hzz 1
  clear hzz hl1 hl2 hB
  go_wp2_with fail
  generalize World.setCell _ _ _ = X at HBZ HL2 ⊢
  obtain ⟨e0, e1⟩ := two_cells HL2.out
  exact bodyPost_ret (v := .tuple #[.agg #[.slice none 0 0, .slice none 0 0], .int .i64 3]) (by simp [results, Tryd.results12, go_sem, e0, e1]) rfl ⟨rfl, HBZ.out⟩
end Go.Proofs.YteknhnnlhhgppaaDoor
