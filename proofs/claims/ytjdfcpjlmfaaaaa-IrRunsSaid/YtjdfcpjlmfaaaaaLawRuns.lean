/-
  IrRuns (package ontimelaw17): Run returns the specified outcome, and does not modify its arguments.
-/
import Derived.Test.YtjdfcpjlmfaaaaaRefRuns
import Derived.Test.YtjdfcpjlmfaaaaaIrPlain
import Derived.Test.YtjdfcpjlmfaaaaaIrAwake
import Derived.Test.YtjdfcpjlmfaaaaaLawFns17
import Derived.Test.YtjdfcpjlmfaaaaaIrOcEq
import Derived.Deep.RegionHeld
import Derived.OrdersHeld
namespace Go.Proofs.Ytjdfcpjlmfaaaaa
set_option linter.unusedVariables false
set_option linter.unusedSimpArgs false
open Go.RowKit
set_option maxRecDepth 100000
set_option maxHeartbeats 8000000

theorem conts_n {l : List (List Int)} (h : contsOk l = true) : l.length ≤ 12 := by
  unfold contsOk at h
  rw [Bool.and_eq_true] at h
  simpa using h.1
theorem RowsOf.cont {N : Nat} {w : World} {v : Value} {rows : List Value} {mem : List (List Int)} (h : RowsOf N w v rows mem) (hw : ∀ r ∈ mem, ∀ x ∈ r, Wd.W x) : ∃ a c, v = .slice a mem.length c ∧ ContAt w a mem := by
  have hlen := h.len
  obtain ⟨a, c, e⟩ := ownsRow_val h.ro
  have hfit := ownsRow_len h.ro
  subst e
  refine ⟨a, c, by rw [hlen], by rw [← hlen]; exact hfit, ?_⟩
  rcases Nat.eq_zero_or_pos mem.length with h0 | h0
  · exact .inl h0
  · have hro := h.ro
    obtain ⟨b, rfl⟩ := ownsRow_some hro (by omega)
    refine .inr ⟨b, 0, rfl, fun k r hr => ?_⟩
    obtain ⟨u, hu⟩ : ∃ u, rows[k]? = some u := ⟨_, List.getElem?_eq_getElem (by rw [hlen]; exact (List.getElem?_eq_some_iff.1 hr).1)⟩
    have h1 := h.ri k u r hu hr
    obtain ⟨ra, rc, rfl⟩ := ownsRow_val h1
    obtain ⟨h2, h3⟩ := words_of_row h1 (hw r (List.mem_of_getElem? hr))
    have h4 := hro.cells rfl k _ hu
    rw [addr_add] at h4
    exact ⟨ra, rc, h4, h2, h3⟩
theorem same_eq (o : Oc) (v1 v2 : Value) (w : World) (h1 : OcAt w v1 o) (h2 : OcAt w v2 o) :
    Calls Try.prog 18 #[v1, v2] w fun e w' => e = .returned (.bool true) ∧ Below w.heap.size w w' := by
  obtain ⟨aa, oa, ua, ac, ocp, uc, rfl, ha, ho, hu, _⟩ := h1
  obtain ⟨aa', oa', ua', ac', ocp', uc', rfl, ha', ho', hu', _⟩ := h2
  obtain ⟨W, hW⟩ : ∃ W : World, (w.alloc (.cells #[.slice aa o.arrays.length ac, .slice oa o.objects.length ocp, .slice ua o.out.length uc, .int .i64 (o.read : Nat), .int .i64 (o.steps : Nat), .int .i64 o.err] 41)).alloc (.cells #[.slice aa' o.arrays.length ac', .slice oa' o.objects.length ocp', .slice ua' o.out.length uc', .int .i64 (o.read : Nat), .int .i64 (o.steps : Nat), .int .i64 o.err] 45) = W := ⟨_, rfl⟩
  have hB : Below w.heap.size w W := by rw [← hW]; exact ((Below.refl _ _).alloc (Nat.le_refl _) _).alloc (by simp) _
  have HB := Lib.hid hB
  have HA := Lib.hid (ha.below hB)
  have HO := Lib.hid (ho.below hB)
  have HU := Lib.hid (hu.below hB)
  have HA' := Lib.hid (ha'.below hB)
  have HO' := Lib.hid (ho'.below hB)
  have HU' := Lib.hid (hu'.below hB)
  have p0 : W.cell? ⟨w.heap.size, 0, none⟩ = some (.slice aa o.arrays.length ac) := by rw [← hW]; simp [World.cell?_alloc_past]
  have p1 : W.cell? ⟨w.heap.size, 1, none⟩ = some (.slice oa o.objects.length ocp) := by rw [← hW]; simp [World.cell?_alloc_past]
  have p2 : W.cell? ⟨w.heap.size, 2, none⟩ = some (.slice ua o.out.length uc) := by rw [← hW]; simp [World.cell?_alloc_past]
  have p3 : W.cell? ⟨w.heap.size, 3, none⟩ = some (.int .i64 (o.read : Nat)) := by rw [← hW]; simp [World.cell?_alloc_past]
  have p4 : W.cell? ⟨w.heap.size, 4, none⟩ = some (.int .i64 (o.steps : Nat)) := by rw [← hW]; simp [World.cell?_alloc_past]
  have p5 : W.cell? ⟨w.heap.size, 5, none⟩ = some (.int .i64 o.err) := by rw [← hW]; simp [World.cell?_alloc_past]
  have q0 : W.cell? ⟨w.heap.size + 1, 0, none⟩ = some (.slice aa' o.arrays.length ac') := by rw [← hW]; simp
  have q1 : W.cell? ⟨w.heap.size + 1, 1, none⟩ = some (.slice oa' o.objects.length ocp') := by rw [← hW]; simp
  have q2 : W.cell? ⟨w.heap.size + 1, 2, none⟩ = some (.slice ua' o.out.length uc') := by rw [← hW]; simp
  have q3 : W.cell? ⟨w.heap.size + 1, 3, none⟩ = some (.int .i64 (o.read : Nat)) := by rw [← hW]; simp
  have q4 : W.cell? ⟨w.heap.size + 1, 4, none⟩ = some (.int .i64 (o.steps : Nat)) := by rw [← hW]; simp
  have q5 : W.cell? ⟨w.heap.size + 1, 5, none⟩ = some (.int .i64 o.err) := by rw [← hW]; simp
  clear ha ho hu ha' ho' hu' hB
  go_enter Try.func18, Try.ntmps18
  go_wp2_with (first
    | (go_at_call 20; with_reducible refine (conts_eq o.arrays aa aa' ac ac' W HA.out HA'.out).mono ?_; rintro e w' ⟨rfl, m, rfl⟩)
    | (go_at_call 20; with_reducible refine (conts_eq o.objects oa oa' ocp ocp' (World.drewN W _) (HO.out.below (below_dN _ _)) (HO'.out.below (below_dN _ _))).mono ?_; rintro e w' ⟨rfl, m, rfl⟩)
    | (go_at_call 23; refine (outputs_eq o.out ua ua' uc uc' (World.drewN W _) (HU.out.below (below_dN _ _)) (HU'.out.below (below_dN _ _))).mono ?_; rintro e w' ⟨rfl, m, rfl⟩))
  go_ret
  exact ⟨rfl, HB.out.trans ((below_dN _ _).mono HB.out.size)⟩
theorem irRuns_any (f : Fn) (shared : List (ByteArray × Int)) (arrays objects : List (List Int)) (inp : List Int) (n : Int) (hn0 : isI64 n) (aa ba sa ara oba ia : Option Addr) (ac bc sc arc obc ic : Nat) (w : World) (hf : FnAt w f aa ba) (hs : ArrsAt w sa shared)
    (ha : ContAt w ara arrays) (ho : ContAt w oba objects) (hin : WordsAt w ia inp) :
    Calls Try.prog 4 #[fnVal f.name f.regs aa f.arrays.length ac ba f.blocks.length bc, .slice sa shared.length sc, .slice ara arrays.length arc, .slice oba objects.length obc, .slice ia inp.length ic, .int .i64 n] w fun e w' => e = .returned (.bool true) ∧ Below w.heap.size w w' := by
  have HF := Lib.hid hf
  have HS := Lib.hid hs
  have HA := Lib.hid ha
  have HO := Lib.hid ho
  have HI := Lib.hid hin
  have ls := hs.fits
  have li := hin.fits
  clear hf hs ha ho hin
  obtain ⟨W, hW⟩ : ∃ W : World, w.alloc (.cells #[.string f.name, .int .i64 f.regs, .slice aa f.arrays.length ac, .slice ba f.blocks.length bc] 25) = W := ⟨_, rfl⟩
  have hWs : W.heap.size = w.heap.size + 1 := by rw [← hW]; simp
  have HBW : Hid (Below w.heap.size w W) := by show Below _ _ _; rw [← hW]; exact (Below.refl _ _).alloc (Nat.le_refl _) _
  have x0 : W.cell? ⟨w.heap.size, 0, none⟩ = some (.string f.name) := by rw [← hW]; simp
  have x1 : W.cell? ⟨w.heap.size, 1, none⟩ = some (.int .i64 f.regs) := by rw [← hW]; simp
  have x2 : W.cell? ⟨w.heap.size, 2, none⟩ = some (.slice aa f.arrays.length ac) := by rw [← hW]; simp
  have x3 : W.cell? ⟨w.heap.size, 3, none⟩ = some (.slice ba f.blocks.length bc) := by rw [← hW]; simp
  have HX := Lib.hid (And.intro x0 (And.intro x1 (And.intro x2 x3)))
  clear x0 x1 x2 x3
  go_enter Try.func4, Try.ntmps4
  go_wp2_with fail
  clear hW
  refine (awake_any W).mono ?_
  rintro e w1 ⟨rfl, hB1⟩
  have HB1 := Lib.hid hB1
  clear hB1
  obtain ⟨x0, x1, x2, x3⟩ := HX.out
  have y0 := (HB1.out.cell (p := ⟨w.heap.size, 0, none⟩) (by show w.heap.size < _; omega)).trans x0
  have y1 := (HB1.out.cell (p := ⟨w.heap.size, 1, none⟩) (by show w.heap.size < _; omega)).trans x1
  have y2 := (HB1.out.cell (p := ⟨w.heap.size, 2, none⟩) (by show w.heap.size < _; omega)).trans x2
  have y3 := (HB1.out.cell (p := ⟨w.heap.size, 3, none⟩) (by show w.heap.size < _; omega)).trans x3
  have HB01 := Lib.hid (HBW.out.trans (HB1.out.mono (by omega)))
  clear x0 x1 x2 x3
  go_wp2_with fail
  refine (small_any f aa ba ac bc w1 (HF.out.below HB01.out)).mono ?_
  rintro e w2 ⟨rfl, hB2⟩
  have HB2 := Lib.hid (HB1.out.trans (hB2.mono HB1.out.size))
  have HB02 := Lib.hid (HBW.out.trans (HB2.out.mono (by omega)))
  clear hB2 y0 y1 y2 y3
  cases hsm : smallOk f with
  | false =>
    simp only [bit01, cond_false]
    go_wp2_with fail
    go_ret
    exact ⟨rfl, HB02.out⟩
  | true =>
  simp only [bit01, cond_true]
  by_cases hl : 12 < shared.length
  · have hl' : (12 : Int) < (shared.length : Int) := by omega
    go_wp2_with fail
    go_ret
    exact ⟨rfl, HB02.out⟩
  have hl' : decide ((12 : Int) < (shared.length : Int)) = false := by simp; omega
  go_wp2_with fail
  refine (conts_any arrays ara arc w2 (HA.out.below HB02.out)).mono ?_
  rintro e w2' ⟨rfl, rfl⟩
  cases hc1 : contsOk arrays with
  | false =>
    simp only [bit01, cond_false]
    go_wp2_with fail
    go_ret
    exact ⟨rfl, HB02.out⟩
  | true =>
  simp only [bit01, cond_true]
  go_wp2_with fail
  refine (conts_any objects oba obc w2 (HO.out.below HB02.out)).mono ?_
  rintro e w2' ⟨rfl, rfl⟩
  cases hc2 : contsOk objects with
  | false =>
    simp only [bit01, cond_false]
    go_wp2_with fail
    go_ret
    exact ⟨rfl, HB02.out⟩
  | true =>
  simp only [bit01, cond_true]
  by_cases hi : 40 < inp.length
  · have hi' : (40 : Int) < (inp.length : Int) := by omega
    go_wp2_with fail
    go_ret
    exact ⟨rfl, HB02.out⟩
  have hi' : decide ((40 : Int) < (inp.length : Int)) = false := by simp; omega
  obtain ⟨x0, x1, x2, x3⟩ := HX.out
  have y0 := (HB2.out.cell (p := ⟨w.heap.size, 0, none⟩) (by show w.heap.size < _; omega)).trans x0
  have y1 := (HB2.out.cell (p := ⟨w.heap.size, 1, none⟩) (by show w.heap.size < _; omega)).trans x1
  have y2 := (HB2.out.cell (p := ⟨w.heap.size, 2, none⟩) (by show w.heap.size < _; omega)).trans x2
  have y3 := (HB2.out.cell (p := ⟨w.heap.size, 3, none⟩) (by show w.heap.size < _; omega)).trans x3
  clear x0 x1 x2 x3 y0 y1 y2 y3
  by_cases hn4 : 400 < n
  · go_wp2_with fail
    go_ret
    exact ⟨rfl, HB02.out⟩
  have hn4' : decide (400 < n) = false := by simpa using hn4
  have HN4 : Hid (n ≤ 400) := by show _ ≤ _; omega
  have HSML := Lib.hid (small_blocks hsm)
  have HC1 := Lib.hid hc1
  have HC2 := Lib.hid hc2
  have HL12 : Hid (shared.length ≤ 12) := by show _ ≤ _; omega
  have HA2 := Lib.hid (HA.out.below HB02.out)
  have HK : Hid (∀ w', Below W.heap.size W w' → (w'.cell? ⟨w.heap.size, 0, none⟩ = some (.string f.name) ∧ w'.cell? ⟨w.heap.size, 1, none⟩ = some (.int .i64 f.regs) ∧ w'.cell? ⟨w.heap.size, 2, none⟩ = some (.slice aa f.arrays.length ac) ∧ w'.cell? ⟨w.heap.size, 3, none⟩ = some (.slice ba f.blocks.length bc)) ∧
      Below w.heap.size w w' ∧ FnAt w' f aa ba ∧ ArrsAt w' sa shared ∧ ContAt w' ara arrays ∧ ContAt w' oba objects ∧ WordsAt w' ia inp) := fun w' h => by
    obtain ⟨x0, x1, x2, x3⟩ := HX.out
    have h7 := HBW.out.trans (h.mono HBW.out.size)
    exact ⟨⟨cell_below h x0, cell_below h x1, cell_below h x2, cell_below h x3⟩, h7, HF.out.below h7, HS.out.below h7, HA.out.below h7, HO.out.below h7, HI.out.below h7⟩
  go_wp2_with fail
  refine (words_any arrays ara arc w2 HA2.out (by have := conts_n HC1.out; omega) (conts_short HC1.out)).mono ?_
  rintro e w3 ⟨v3, ra, rfl, hra, hB3⟩
  have HRA := Lib.hid hra
  have HB3 : Hid (Below W.heap.size W w3) := below_then HB2.out hB3
  obtain ⟨_, _, _, _, _, ho3, _⟩ := HK.out w3 HB3.out
  have HO3 := Lib.hid ho3
  clear hra hB3 ho3
  go_wp2_with fail
  refine (words_any objects oba obc w3 HO3.out (by have := conts_n HC2.out; omega) (conts_short HC2.out)).mono ?_
  rintro e w4 ⟨v4, ro, rfl, hro, hB4⟩
  have HB4 : Hid (Below W.heap.size W w4) := below_then HB3.out hB4
  have HCA := Lib.hid ((HRA.out.keep hB4).cont (fun r hr => HA.out.word hr))
  have HCO := Lib.hid (hro.cont (fun r hr => HO.out.word hr))
  clear hro hB4
  obtain ⟨caa, cac, rfl, hca⟩ := HCA.out
  obtain ⟨coa, coc, rfl, hco⟩ := HCO.out
  have HCA := Lib.hid hca
  have HCO := Lib.hid hco
  obtain ⟨⟨x0, x1, x2, x3⟩, _, hf4, hs4, ha4, ho4, hi4⟩ := HK.out w4 HB4.out
  have HR4 : Hid (Calls Try.prog 17 #[fnVal f.name f.regs aa f.arrays.length ac ba f.blocks.length bc, .slice sa shared.length sc, .slice ara arrays.length arc, .slice oba objects.length obc, .slice ia inp.length ic, .int .i64 n] w4 fun e w' =>
      ∃ v, e = .returned v ∧ OcAt w' v (runOf f shared arrays objects inp n) ∧ Below w4.heap.size w4 w') := run_any f shared arrays objects inp n aa ba sa ara oba ia ac bc sc arc obc ic w4 hf4 hs4 (by omega) ha4 ho4 (conts_short HC1.out) (conts_short HC2.out) hi4 (by omega)
  clear hf4 hs4 ha4 ho4 hi4 hca hco hn4 hn4'
  unfold fnVal at HR4
  go_wp2_with fail
  clear x0 x1 x2 x3
  refine HR4.out.mono ?_
  rintro e w5 ⟨v5, rfl, hoc, hB5⟩
  obtain ⟨o, ho⟩ : ∃ o, runOf f shared arrays objects inp n = o := ⟨_, rfl⟩
  have HOE := Lib.hid ho
  rw [ho] at hoc
  have HOC := Lib.hid hoc
  obtain ⟨aa1, oa1, ua1, ac1, oc1, uc1, rfl, _⟩ := hoc
  obtain ⟨Y, hY⟩ : ∃ Y : World, w5.alloc (.cells #[.slice aa1 o.arrays.length ac1, .slice oa1 o.objects.length oc1, .slice ua1 o.out.length uc1, .int .i64 (o.read : Nat), .int .i64 (o.steps : Nat), .int .i64 o.err] 41) = Y := ⟨_, rfl⟩
  have HBY : Hid (Below w5.heap.size w5 Y) := by show Below _ _ _; rw [← hY]; exact (Below.refl _ _).alloc (Nat.le_refl _) _
  have HYB : Hid (Y.heap[w5.heap.size]? = some (.cells #[.slice aa1 o.arrays.length ac1, .slice oa1 o.objects.length oc1, .slice ua1 o.out.length uc1, .int .i64 (o.read : Nat), .int .i64 (o.steps : Nat), .int .i64 o.err] 41)) := by show _ = _; rw [← hY]; exact (MapKept.heap_alloc w5 _).1
  have HB4Y : Hid (Below w4.heap.size w4 Y) := below_then hB5 HBY.out
  have HBWY : Hid (Below W.heap.size W Y) := below_then HB4.out HB4Y.out
  have HOCY := Lib.hid (HOC.out.below HBY.out)
  have HS7 : Hid (∀ w', Below Y.heap.size Y w' → (w'.cell? ⟨w5.heap.size, 0, none⟩ = some (.slice aa1 o.arrays.length ac1) ∧ w'.cell? ⟨w5.heap.size, 1, none⟩ = some (.slice oa1 o.objects.length oc1) ∧ w'.cell? ⟨w5.heap.size, 2, none⟩ = some (.slice ua1 o.out.length uc1) ∧ w'.cell? ⟨w5.heap.size, 3, none⟩ = some (.int .i64 (o.read : Nat)) ∧ w'.cell? ⟨w5.heap.size, 4, none⟩ = some (.int .i64 (o.steps : Nat)) ∧ w'.cell? ⟨w5.heap.size, 5, none⟩ = some (.int .i64 o.err)) ∧
      (w'.cell? ⟨w.heap.size, 0, none⟩ = some (.string f.name) ∧ w'.cell? ⟨w.heap.size, 1, none⟩ = some (.int .i64 f.regs) ∧ w'.cell? ⟨w.heap.size, 2, none⟩ = some (.slice aa f.arrays.length ac) ∧ w'.cell? ⟨w.heap.size, 3, none⟩ = some (.slice ba f.blocks.length bc))) := fun w' h => by
    have h9 := (h.block _ (lt_heap HYB.out)).trans HYB.out
    exact ⟨⟨cell_heap h9 0, cell_heap h9 1, cell_heap h9 2, cell_heap h9 3, cell_heap h9 4, cell_heap h9 5⟩, (HK.out w' (below_then HBWY.out h)).1⟩
  clear hB5 HR4 ho
  go_wp2_with fail
  refine wp_region_held_drew (S := fun w' => Below Y.heap.size Y w') (by kernel_rfl) ((Below.refl _ _).drew) (fun hHeld => ?_)
  have HD0 : Hid (Below Y.heap.size Y Y.drew) := (Below.refl _ _).drew
  generalize hwd : Y.drew = D at hHeld HD0 ⊢
  clear hwd hY
  refine wpAnyH_take (i := 0) (v := .agg #[.slice aa1 o.arrays.length ac1, .slice oa1 o.objects.length oc1, .slice ua1 o.out.length uc1, .int .i64 (o.read : Nat), .int .i64 (o.steps : Nat), .int .i64 o.err]) rfl (by kernel_rfl) (by kernel_rfl) (by kernel_rfl) (fun _ _ _ h => h) (Or.inl ⟨by rfl, ?_⟩) (by assumption) ?_
  · intro w' hSw; obtain ⟨⟨s0, s1, s2, s3, s4, s5⟩, _⟩ := HS7.out _ hSw; go_simp
  (try simp only [Act.put, List.getElem_toArray, List.getElem_cons_zero, List.setIfInBounds_toArray, List.set_cons_zero, List.set_cons_succ])
  refine wpAnyH_take (i := 1) (v := .agg #[.string f.name, .int .i64 f.regs, .slice aa f.arrays.length ac, .slice ba f.blocks.length bc]) rfl (by kernel_rfl) (by kernel_rfl) (by kernel_rfl) (fun _ _ _ h => h) (Or.inl ⟨by rfl, ?_⟩) (by assumption) ?_
  · intro w' hSw; obtain ⟨_, x0, x1, x2, x3⟩ := HS7.out _ hSw; go_simp
  (try simp only [Act.put, List.getElem_toArray, List.getElem_cons_zero, List.getElem_cons_succ, List.setIfInBounds_toArray, List.set_cons_zero, List.set_cons_succ])
  refine wpAnyH_take (i := 3) (v := .slice sa shared.length sc) rfl (by kernel_rfl) (by kernel_rfl) (by kernel_rfl) (fun _ _ _ h => h) (Or.inl ⟨by rfl, ?_⟩) (by assumption) ?_
  · intro w' hSw; go_simp
  (try simp only [Act.put, List.getElem_toArray, List.getElem_cons_zero, List.getElem_cons_succ, List.setIfInBounds_toArray, List.set_cons_zero, List.set_cons_succ])
  refine wpAnyH_take (i := 4) (v := .slice caa arrays.length cac) rfl (by kernel_rfl) (by kernel_rfl) (by kernel_rfl) (fun _ _ _ h => h) (Or.inl ⟨by rfl, ?_⟩) (by assumption) ?_
  · intro w' hSw; go_simp
  (try simp only [Act.put, List.getElem_toArray, List.getElem_cons_zero, List.getElem_cons_succ, List.setIfInBounds_toArray, List.set_cons_zero, List.set_cons_succ])
  refine wpAnyH_take (i := 5) (v := .slice coa objects.length coc) rfl (by kernel_rfl) (by kernel_rfl) (by kernel_rfl) (fun _ _ _ h => h) (Or.inl ⟨by rfl, ?_⟩) (by assumption) ?_
  · intro w' hSw; go_simp
  (try simp only [Act.put, List.getElem_toArray, List.getElem_cons_zero, List.getElem_cons_succ, List.setIfInBounds_toArray, List.set_cons_zero, List.set_cons_succ])
  refine wpAnyH_take (i := 6) (v := .slice ia inp.length ic) rfl (by kernel_rfl) (by kernel_rfl) (by kernel_rfl) (fun _ _ _ h => h) (Or.inl ⟨by rfl, ?_⟩) (by assumption) ?_
  · intro w' hSw; go_simp
  (try simp only [Act.put, List.getElem_toArray, List.getElem_cons_zero, List.getElem_cons_succ, List.setIfInBounds_toArray, List.set_cons_zero, List.set_cons_succ])
  refine wpAnyH_take (i := 7) (v := .int .i64 n) rfl (by kernel_rfl) (by kernel_rfl) (by kernel_rfl) (fun _ _ _ h => h) (Or.inl ⟨by rfl, ?_⟩) (by assumption) ?_
  · intro w' hSw; go_simp
  (try simp only [Act.put, List.getElem_toArray, List.getElem_cons_zero, List.getElem_cons_succ, List.setIfInBounds_toArray, List.set_cons_zero, List.set_cons_succ])
  refine wpAnyH_ready (rs := [2]) (by kernel_rfl) (by simp) (AllReadyH.cons rfl (fun K hK => ?_) AllReadyH.nil)
  go_simp
  refine (plain_any f aa ba ac bc D (HK.out D (below_then HBWY.out HD0.out)).2.2.1 (by have := HSML.out.1; omega) (fun b hb => by have := HSML.out.2 b hb; omega)).mono ?_
  rintro e D1 ⟨ba', bc', rfl, hfn, hD1⟩
  have HD1 : Hid (Below Y.heap.size Y D1) := below_then HD0.out hD1
  obtain ⟨_, _, hsD, _, _, hiD⟩ := (HK.out D1 (below_then HBWY.out HD1.out)).2
  have hQR := refRun_any f shared arrays objects inp n aa ba' sa caa coa ia ac bc' sc cac coc ic D1 hfn hsD (HCA.out.below (below_then HB4Y.out HD1.out)) (HCO.out.below (below_then HB4Y.out HD1.out)) (conts_short HC1.out) (conts_short HC2.out) (by have := HL12.out; omega) hiD (by have := HN4.out; omega)
  rw [HOE.out] at hQR
  unfold fnVal at hQR
  have QR := Lib.hid hQR
  clear hfn hsD hiD hD1 hQR
  refine hK.out _ _ (HD1.out) (fun hHeld => ?_)
  clear hK K
  rename_i hOld
  clear hOld
  (try simp only [Act.put, List.getElem_toArray, List.getElem_cons_zero, List.getElem_cons_succ, List.setIfInBounds_toArray, List.set_cons_zero, List.set_cons_succ])
  refine wpAnyH_ready (rs := [8]) (by kernel_rfl) (by simp) (AllReadyH.cons rfl (fun K hK => ?_) AllReadyH.nil)
  go_simp
  refine QR.out.mono ?_
  rintro e D2 ⟨v2, rfl, hoc2, hD2⟩
  have HD2 : Hid (Below Y.heap.size Y D2) := below_then HD1.out hD2
  have HOC2 := Lib.hid hoc2
  obtain ⟨aa2, oa2, ua2, ac2, oc2, uc2, rfl, _⟩ := hoc2
  clear hD2 QR
  refine hK.out _ _ (HD2.out) (fun hHeld => ?_)
  clear hK K
  rename_i hOld
  clear hOld
  (try simp only [Act.put, List.getElem_toArray, List.getElem_cons_zero, List.getElem_cons_succ, List.setIfInBounds_toArray, List.set_cons_zero, List.set_cons_succ])
  refine wpAnyH_ready (rs := [9]) (by kernel_rfl) (by simp) (AllReadyH.cons rfl (fun K hK => ?_) AllReadyH.nil)
  go_simp
  refine (same_eq o _ _ D2 (HOCY.out.below HD2.out) HOC2.out).mono ?_
  rintro e D3 ⟨rfl, hD3⟩
  have HD3 : Hid (Below Y.heap.size Y D3) := below_then HD2.out hD3
  clear hD3
  refine hK.out _ _ (HD3.out) (fun hHeld => ?_)
  clear hK K
  rename_i hOld
  clear hOld
  (try simp only [Act.put, List.getElem_toArray, List.getElem_cons_zero, List.getElem_cons_succ, List.setIfInBounds_toArray, List.set_cons_zero, List.set_cons_succ])
  refine wpAnyH_take (i := 10) (v := .bool true) rfl (by kernel_rfl) (by kernel_rfl) (by kernel_rfl) (fun _ _ _ h => h) (Or.inl ⟨by rfl, ?_⟩) (by assumption) ?_
  · intro w' hSw; go_simp
  (try simp only [Act.put, List.getElem_toArray, List.getElem_cons_zero, List.getElem_cons_succ, List.setIfInBounds_toArray, List.set_cons_zero, List.set_cons_succ])
  refine wpAnyH_take (i := 11) (v := .slice ara arrays.length arc) rfl (by kernel_rfl) (by kernel_rfl) (by kernel_rfl) (fun _ _ _ h => h) (Or.inl ⟨by rfl, ?_⟩) (by assumption) ?_
  · intro w' hSw; go_simp
  (try simp only [Act.put, List.getElem_toArray, List.getElem_cons_zero, List.getElem_cons_succ, List.setIfInBounds_toArray, List.set_cons_zero, List.set_cons_succ])
  refine wpAnyH_take (i := 12) (v := .slice caa arrays.length cac) rfl (by kernel_rfl) (by kernel_rfl) (by kernel_rfl) (fun _ _ _ h => h) (Or.inl ⟨by rfl, ?_⟩) (by assumption) ?_
  · intro w' hSw; go_simp
  (try simp only [Act.put, List.getElem_toArray, List.getElem_cons_zero, List.getElem_cons_succ, List.setIfInBounds_toArray, List.set_cons_zero, List.set_cons_succ])
  refine wpAnyH_ready (rs := [13]) (by kernel_rfl) (by simp) (AllReadyH.cons rfl (fun K hK => ?_) AllReadyH.nil)
  go_simp
  refine (conts_eq arrays ara caa arc cac D3 (HK.out D3 (below_then HBWY.out HD3.out)).2.2.2.2.1 (HCA.out.below (below_then HB4Y.out HD3.out))).mono ?_
  rintro e D4 ⟨rfl, m4, rfl⟩
  have HD4 : Hid (Below Y.heap.size Y (World.drewN D3 m4)) := below_then HD3.out (below_dN _ _)
  generalize World.drewN D3 m4 = D4 at HD4 ⊢
  refine hK.out _ _ (HD4.out) (fun hHeld => ?_)
  clear hK K
  rename_i hOld
  clear hOld
  (try simp only [Act.put, List.getElem_toArray, List.getElem_cons_zero, List.getElem_cons_succ, List.setIfInBounds_toArray, List.set_cons_zero, List.set_cons_succ])
  refine wpAnyH_take (i := 14) (v := .bool true) rfl (by kernel_rfl) (by kernel_rfl) (by kernel_rfl) (fun _ _ _ h => h) (Or.inl ⟨by rfl, ?_⟩) (by assumption) ?_
  · intro w' hSw; go_simp
  (try simp only [Act.put, List.getElem_toArray, List.getElem_cons_zero, List.getElem_cons_succ, List.setIfInBounds_toArray, List.set_cons_zero, List.set_cons_succ])
  refine wpAnyH_take (i := 15) (v := .bool true) rfl (by kernel_rfl) (by kernel_rfl) (by kernel_rfl) (fun _ _ _ h => h) (Or.inl ⟨by rfl, ?_⟩) (by assumption) ?_
  · intro w' hSw; go_simp
  (try simp only [Act.put, List.getElem_toArray, List.getElem_cons_zero, List.getElem_cons_succ, List.setIfInBounds_toArray, List.set_cons_zero, List.set_cons_succ])
  refine wpAnyH_take (i := 16) (v := .slice oba objects.length obc) rfl (by kernel_rfl) (by kernel_rfl) (by kernel_rfl) (fun _ _ _ h => h) (Or.inl ⟨by rfl, ?_⟩) (by assumption) ?_
  · intro w' hSw; go_simp
  (try simp only [Act.put, List.getElem_toArray, List.getElem_cons_zero, List.getElem_cons_succ, List.setIfInBounds_toArray, List.set_cons_zero, List.set_cons_succ])
  refine wpAnyH_take (i := 17) (v := .slice coa objects.length coc) rfl (by kernel_rfl) (by kernel_rfl) (by kernel_rfl) (fun _ _ _ h => h) (Or.inl ⟨by rfl, ?_⟩) (by assumption) ?_
  · intro w' hSw; go_simp
  (try simp only [Act.put, List.getElem_toArray, List.getElem_cons_zero, List.getElem_cons_succ, List.setIfInBounds_toArray, List.set_cons_zero, List.set_cons_succ])
  refine wpAnyH_ready (rs := [18]) (by kernel_rfl) (by simp) (AllReadyH.cons rfl (fun K hK => ?_) AllReadyH.nil)
  go_simp
  refine (conts_eq objects oba coa obc coc D4 (HK.out D4 (below_then HBWY.out HD4.out)).2.2.2.2.2.1 (HCO.out.below (below_then HB4Y.out HD4.out))).mono ?_
  rintro e D5 ⟨rfl, m5, rfl⟩
  have HD5 : Hid (Below Y.heap.size Y (World.drewN D4 m5)) := below_then HD4.out (below_dN _ _)
  generalize World.drewN D4 m5 = D5 at HD5 ⊢
  refine hK.out _ _ (HD5.out) (fun hHeld => ?_)
  clear hK K
  rename_i hOld
  clear hOld
  (try simp only [Act.put, List.getElem_toArray, List.getElem_cons_zero, List.getElem_cons_succ, List.setIfInBounds_toArray, List.set_cons_zero, List.set_cons_succ])
  refine wpAnyH_take (i := 19) (v := .bool true) rfl (by kernel_rfl) (by kernel_rfl) (by kernel_rfl) (fun _ _ _ h => h) (Or.inl ⟨by rfl, ?_⟩) (by assumption) ?_
  · intro w' hSw; go_simp
  (try simp only [Act.put, List.getElem_toArray, List.getElem_cons_zero, List.getElem_cons_succ, List.setIfInBounds_toArray, List.set_cons_zero, List.set_cons_succ])
  refine wpAnyH_take (i := 20) (v := .bool true) rfl (by kernel_rfl) (by kernel_rfl) (by kernel_rfl) (fun _ _ _ h => h) (Or.inl ⟨by rfl, ?_⟩) (by assumption) ?_
  · intro w' hSw; go_simp
  (try simp only [Act.put, List.getElem_toArray, List.getElem_cons_zero, List.getElem_cons_succ, List.setIfInBounds_toArray, List.set_cons_zero, List.set_cons_succ])
  refine wpAnyH_done (by kernel_rfl) ?_ _
  have HBE := Lib.hid (HK.out D5 (below_then HBWY.out HD5.out)).2.1
  go_wp2_with fail
  go_ret
  exact ⟨rfl, HBE.out⟩
end Go.Proofs.Ytjdfcpjlmfaaaaa
