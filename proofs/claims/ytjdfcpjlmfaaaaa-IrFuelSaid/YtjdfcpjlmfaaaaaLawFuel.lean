/-
  IrFuel (package ontimelaw17): a run with less fuel is the beginning of one with more.
-/
import Derived.Test.YtjdfcpjlmfaaaaaIrAwake
import Derived.Test.YtjdfcpjlmfaaaaaIrOcEq
namespace Go.Proofs.Ytjdfcpjlmfaaaaa
set_option linter.unusedVariables false
set_option linter.unusedSimpArgs false
open Go.RowKit
set_option maxRecDepth 100000
set_option maxHeartbeats 16000000

theorem go_err3 {blocks : List Blk} {names : List ByteArray} {inp : List Int} : ∀ (n at_ k : Nat) (s : St), (go blocks names inp n at_ k s).2.1 ≠ 3 := by
  intro n
  induction n with
  | zero => intro at_ k s; simp [go]
  | succ n ih =>
    intro at_ k s
    unfold go
    split
    · simp
    · split
      · split
        · rename_i e he
          have := step_err he
          show e ≠ 3
          omega
        · exact ih _ _ _
      · split
        · split <;> simp
        · exact ih _ _ _
/-- the outcome with less fuel, beside the one with more -/
theorem run_fuel (f : Fn) (shared : List (ByteArray × Int)) (arrays objects : List (List Int)) (inp : List Int) {n m : Int} (h : n ≤ m) :
    (runFits f shared arrays objects = false ∧ runOf f shared arrays objects inp n = ⟨[], [], [], 0, 0, 3⟩ ∧ runOf f shared arrays objects inp m = ⟨[], [], [], 0, 0, 3⟩) ∨
    (runFits f shared arrays objects = true ∧ (runOf f shared arrays objects inp m).err ≠ 3 ∧
      (((runOf f shared arrays objects inp n).err ≠ 13 ∧ runOf f shared arrays objects inp m = runOf f shared arrays objects inp n) ∨
       ((runOf f shared arrays objects inp n).err = 13 ∧ (runOf f shared arrays objects inp n).steps = n.toNat ∧ n.toNat ≤ (runOf f shared arrays objects inp m).steps ∧ (runOf f shared arrays objects inp n).out <+: (runOf f shared arrays objects inp m).out ∧ (runOf f shared arrays objects inp n).read ≤ (runOf f shared arrays objects inp m).read))) := by
  cases hf : runFits f shared arrays objects with
  | false => exact .inl ⟨rfl, by unfold runOf; rw [hf]; rfl, by unfold runOf; rw [hf]; rfl⟩
  | true =>
    have e : ∀ m, runOf f shared arrays objects inp m = ⟨(runGo f shared arrays objects inp m).2.2.mem.take arrays.length, (runGo f shared arrays objects inp m).2.2.mem.drop arrays.length, (runGo f shared arrays objects inp m).2.2.out, (runGo f shared arrays objects inp m).2.2.read, (runGo f shared arrays objects inp m).1, (runGo f shared arrays objects inp m).2.1⟩ := fun m => by unfold runOf; rw [hf]; rfl
    rw [e n, e m]
    refine .inr ⟨rfl, go_err3 _ _ _ _, ?_⟩
    rcases go_fuel (blocks := f.blocks) (names := fnNames f shared) (inp := inp) n.toNat m.toNat 0 0 (St.init f.regs.toNat (arrays ++ objects)) (by omega) with ⟨h1, h2, h3, h4, h5⟩ | ⟨h1, h2⟩
    · exact .inr ⟨h1, h2, h3, h4, h5⟩
    · refine .inl ⟨h1, ?_⟩
      have h2 : runGo f shared arrays objects inp m = runGo f shared arrays objects inp n := h2
      rw [h2]
theorem outs_prefix {w : World} {a : Option Addr} {l m : List (Int × Int)} (h : OutsAt w a m) (hp : l <+: m) : OutsAt w a l := by
  have hl := hp.length_le
  refine ⟨Nat.le_trans hl h.fits, ?_⟩
  by_cases h0 : l.length = 0
  · exact .inl h0
  rcases h.at_ with h1 | ⟨b, off, ha, hc⟩
  · omega
  · exact .inr ⟨b, off, ha, fun k p hk => hc k p (by
      obtain ⟨t, rfl⟩ := hp
      rw [List.getElem?_append_left (List.getElem?_eq_some_iff.1 hk).1]
      exact hk)⟩
theorem conts_len {l : List (List Int)} (h : contsOk l = true) : ∀ r ∈ l, r.length ≤ 1000000 := by
  intro r hr
  unfold contsOk at h
  rw [Bool.and_eq_true] at h
  have := List.all_eq_true.1 h.2 r hr
  simp at this
  omega
theorem irFuel_any (f : Fn) (shared : List (ByteArray × Int)) (arrays objects : List (List Int)) (inp : List Int) (n : Int) (hn0 : 0 ≤ n) (hn1 : n ≤ 255) (aa ba sa ara oba ia : Option Addr) (ac bc sc arc obc ic : Nat) (w : World) (hf : FnAt w f aa ba) (hs : ArrsAt w sa shared)
    (ha : ContAt w ara arrays) (ho : ContAt w oba objects) (hin : WordsAt w ia inp) :
    Calls Try.prog 6 #[fnVal f.name f.regs aa f.arrays.length ac ba f.blocks.length bc, .slice sa shared.length sc, .slice ara arrays.length arc, .slice oba objects.length obc, .slice ia inp.length ic, .int .u8 n] w fun e w' => e = .returned (.bool true) ∧ Below w.heap.size w w' := by
  have HF := Lib.hid hf
  have HS := Lib.hid hs
  have HA := Lib.hid ha
  have HO := Lib.hid ho
  have HI := Lib.hid hin
  have ls := hs.fits
  have li := hin.fits
  clear hf hs ha ho hin
  obtain ⟨W, hW⟩ : ∃ W : World, w.alloc (.cells #[.string f.name, .int .i64 f.regs, .slice aa f.arrays.length ac, .slice ba f.blocks.length bc] 25) = W := ⟨_, rfl⟩
  have hWs : W.heap.size = w.heap.size + 1 := by rw [← hW]; simp
  have HBW : Hid (Below w.heap.size w W) := by show Below _ _ _; rw [← hW]; exact (Below.refl _ _).alloc (Nat.le_refl _) _
  have x0 : W.cell? ⟨w.heap.size, 0, none⟩ = some (.string f.name) := by rw [← hW]; simp
  have x1 : W.cell? ⟨w.heap.size, 1, none⟩ = some (.int .i64 f.regs) := by rw [← hW]; simp
  have x2 : W.cell? ⟨w.heap.size, 2, none⟩ = some (.slice aa f.arrays.length ac) := by rw [← hW]; simp
  have x3 : W.cell? ⟨w.heap.size, 3, none⟩ = some (.slice ba f.blocks.length bc) := by rw [← hW]; simp
  have HX := Lib.hid (And.intro x0 (And.intro x1 (And.intro x2 x3)))
  clear x0 x1 x2 x3
  go_enter Try.func6, Try.ntmps6
  go_wp2_with fail
  clear hW
  refine (awake_any W).mono ?_
  rintro e w1 ⟨rfl, hB1⟩
  have HB1 := Lib.hid hB1
  clear hB1
  obtain ⟨x0, x1, x2, x3⟩ := HX.out
  have y0 := (HB1.out.cell (p := ⟨w.heap.size, 0, none⟩) (by show w.heap.size < _; omega)).trans x0
  have y1 := (HB1.out.cell (p := ⟨w.heap.size, 1, none⟩) (by show w.heap.size < _; omega)).trans x1
  have y2 := (HB1.out.cell (p := ⟨w.heap.size, 2, none⟩) (by show w.heap.size < _; omega)).trans x2
  have y3 := (HB1.out.cell (p := ⟨w.heap.size, 3, none⟩) (by show w.heap.size < _; omega)).trans x3
  have HB01 := Lib.hid (HBW.out.trans (HB1.out.mono (by omega)))
  clear x0 x1 x2 x3
  go_wp2_with fail
  refine (small_any f aa ba ac bc w1 (HF.out.below HB01.out)).mono ?_
  rintro e w2 ⟨rfl, hB2⟩
  have HB2 := Lib.hid (HB1.out.trans (hB2.mono HB1.out.size))
  have HB02 := Lib.hid (HBW.out.trans (HB2.out.mono (by omega)))
  clear hB2 y0 y1 y2 y3
  cases hsm : smallOk f with
  | false =>
    simp only [bit01, cond_false]
    go_wp2_with fail
    go_ret
    exact ⟨rfl, HB02.out⟩
  | true =>
  simp only [bit01, cond_true]
  by_cases hl : 12 < shared.length
  · have hl' : (12 : Int) < (shared.length : Int) := by omega
    go_wp2_with fail
    go_ret
    exact ⟨rfl, HB02.out⟩
  have hl' : decide ((12 : Int) < (shared.length : Int)) = false := by simp; omega
  go_wp2_with fail
  refine (conts_any arrays ara arc w2 (HA.out.below HB02.out)).mono ?_
  rintro e w2' ⟨rfl, rfl⟩
  cases hc1 : contsOk arrays with
  | false =>
    simp only [bit01, cond_false]
    go_wp2_with fail
    go_ret
    exact ⟨rfl, HB02.out⟩
  | true =>
  simp only [bit01, cond_true]
  go_wp2_with fail
  refine (conts_any objects oba obc w2 (HO.out.below HB02.out)).mono ?_
  rintro e w2' ⟨rfl, rfl⟩
  cases hc2 : contsOk objects with
  | false =>
    simp only [bit01, cond_false]
    go_wp2_with fail
    go_ret
    exact ⟨rfl, HB02.out⟩
  | true =>
  simp only [bit01, cond_true]
  by_cases hi : 40 < inp.length
  · have hi' : (40 : Int) < (inp.length : Int) := by omega
    go_wp2_with fail
    go_ret
    exact ⟨rfl, HB02.out⟩
  have hi' : decide ((40 : Int) < (inp.length : Int)) = false := by simp; omega
  obtain ⟨x0, x1, x2, x3⟩ := HX.out
  have y0 := (HB2.out.cell (p := ⟨w.heap.size, 0, none⟩) (by show w.heap.size < _; omega)).trans x0
  have y1 := (HB2.out.cell (p := ⟨w.heap.size, 1, none⟩) (by show w.heap.size < _; omega)).trans x1
  have y2 := (HB2.out.cell (p := ⟨w.heap.size, 2, none⟩) (by show w.heap.size < _; omega)).trans x2
  have y3 := (HB2.out.cell (p := ⟨w.heap.size, 3, none⟩) (by show w.heap.size < _; omega)).trans x3
  clear x0 x1 x2 x3
  go_wp2_with fail
  refine (run_any f shared arrays objects inp 400 aa ba sa ara oba ia ac bc sc arc obc ic w2 (HF.out.below HB02.out) (HS.out.below HB02.out) (by omega) (HA.out.below HB02.out) (HO.out.below HB02.out) (conts_len hc1) (conts_len hc2) (HI.out.below HB02.out) (by decide)).mono ?_
  rintro e w3 ⟨v1, rfl, hoc1, hB3⟩
  have HRF := Lib.hid (run_fuel f shared arrays objects inp (n := n) (m := 400) (by omega))
  obtain ⟨o1, ho1⟩ : ∃ o, runOf f shared arrays objects inp 400 = o := ⟨_, rfl⟩
  rw [ho1] at hoc1 HRF
  clear ho1 y0 y1 y2 y3 hl' hi'
  obtain ⟨aa1, oa1, ua1, ac1, oc1, uc1, rfl, hva1, hvo1, hvu1, hcap1, hcm1, hcn1⟩ := hoc1
  have HB3 := Lib.hid (HB2.out.trans (hB3.mono HB2.out.size))
  have HB03 := Lib.hid (HBW.out.trans (HB3.out.mono (by omega)))
  have h3s : w.heap.size < w3.heap.size := by have := HB3.out.size; omega
  obtain ⟨Y, hY⟩ : ∃ Y : World, w3.alloc (.cells #[.slice aa1 o1.arrays.length ac1, .slice oa1 o1.objects.length oc1, .slice ua1 o1.out.length uc1, .int .i64 (o1.read : Nat), .int .i64 (o1.steps : Nat), .int .i64 o1.err] 41) = Y := ⟨_, rfl⟩
  have hBY : Below w3.heap.size w3 Y := by rw [← hY]; exact (Below.refl _ _).alloc (Nat.le_refl _) _
  have hYs : Y.heap.size = w3.heap.size + 1 := by rw [← hY]; simp
  have HBY := Lib.hid hBY
  have HB3Y := Lib.hid (HB3.out.trans (hBY.mono HB3.out.size))
  have HB0Y := Lib.hid (HB03.out.trans (hBY.mono HB03.out.size))
  have HO1 : Hid (Y.heap[w3.heap.size]? = some (.cells #[.slice aa1 o1.arrays.length ac1, .slice oa1 o1.objects.length oc1, .slice ua1 o1.out.length uc1, .int .i64 (o1.read : Nat), .int .i64 (o1.steps : Nat), .int .i64 o1.err] 41)) := by show _ = _; rw [← hY]; exact heap_new _ _
  have HV1 : Hid (OcAt Y (.agg #[.slice aa1 o1.arrays.length ac1, .slice oa1 o1.objects.length oc1, .slice ua1 o1.out.length uc1, .int .i64 (o1.read : Nat), .int .i64 (o1.steps : Nat), .int .i64 o1.err]) o1) := ⟨aa1, oa1, ua1, ac1, oc1, uc1, rfl, hva1.below hBY, hvo1.below hBY, hvu1.below hBY, hcap1, hcm1, hcn1⟩
  have HU1 := Lib.hid (hvu1.below hBY)
  have hlo1 := hvu1.fits
  obtain ⟨x0, x1, x2, x3⟩ := HX.out
  have y0 := (HB3Y.out.cell (p := ⟨w.heap.size, 0, none⟩) (by show w.heap.size < _; omega)).trans x0
  have y1 := (HB3Y.out.cell (p := ⟨w.heap.size, 1, none⟩) (by show w.heap.size < _; omega)).trans x1
  have y2 := (HB3Y.out.cell (p := ⟨w.heap.size, 2, none⟩) (by show w.heap.size < _; omega)).trans x2
  have y3 := (HB3Y.out.cell (p := ⟨w.heap.size, 3, none⟩) (by show w.heap.size < _; omega)).trans x3
  clear x0 x1 x2 x3 hB3 hva1 hvo1 hvu1 hBY
  go_wp2_with fail
  clear hY y0 y1 y2 y3
  refine (run_any f shared arrays objects inp n aa ba sa ara oba ia ac bc sc arc obc ic Y (HF.out.below HB0Y.out) (HS.out.below HB0Y.out) (by omega) (HA.out.below HB0Y.out) (HO.out.below HB0Y.out) (conts_len hc1) (conts_len hc2) (HI.out.below HB0Y.out) (by omega)).mono ?_
  rintro e w4 ⟨v2, rfl, hoc2, hB4⟩
  obtain ⟨o2, ho2⟩ : ∃ o, runOf f shared arrays objects inp n = o := ⟨_, rfl⟩
  rw [ho2] at hoc2 HRF
  clear ho2
  have hoc2' := hoc2
  obtain ⟨aa2, oa2, ua2, ac2, oc2, uc2, rfl, hva2, hvo2, hvu2, hcap2, hcm2, hcn2⟩ := hoc2
  have HB4 := Lib.hid hB4
  have HB04 := Lib.hid (HB0Y.out.trans (hB4.mono HB0Y.out.size))
  obtain ⟨Z, hZ⟩ : ∃ Z : World, w4.alloc (.cells #[.slice aa2 o2.arrays.length ac2, .slice oa2 o2.objects.length oc2, .slice ua2 o2.out.length uc2, .int .i64 (o2.read : Nat), .int .i64 (o2.steps : Nat), .int .i64 o2.err] 41) = Z := ⟨_, rfl⟩
  have hBZ : Below w4.heap.size w4 Z := by rw [← hZ]; exact (Below.refl _ _).alloc (Nat.le_refl _) _
  have HBYZ := Lib.hid (HB4.out.trans (hBZ.mono HB4.out.size))
  have HB0Z := Lib.hid (HB04.out.trans (hBZ.mono HB04.out.size))
  have HO2 : Hid (Z.heap[w4.heap.size]? = some (.cells #[.slice aa2 o2.arrays.length ac2, .slice oa2 o2.objects.length oc2, .slice ua2 o2.out.length uc2, .int .i64 (o2.read : Nat), .int .i64 (o2.steps : Nat), .int .i64 o2.err] 41)) := by show _ = _; rw [← hZ]; exact heap_new _ _
  have HO1Z := Lib.hid ((HBYZ.out.block _ (by omega)).trans HO1.out)
  have HV1Z := Lib.hid (HV1.out.below HBYZ.out)
  have HV2Z := Lib.hid (hoc2'.below hBZ)
  have HU1Z := Lib.hid (HU1.out.below HBYZ.out)
  have HU2Z := Lib.hid (hvu2.below hBZ)
  have hlo2 := hvu2.fits
  have a0 : Z.cell? ⟨w3.heap.size, 0, none⟩ = some (.slice aa1 o1.arrays.length ac1) := cell_heap HO1Z.out 0
  have a1 : Z.cell? ⟨w3.heap.size, 1, none⟩ = some (.slice oa1 o1.objects.length oc1) := cell_heap HO1Z.out 1
  have a2 : Z.cell? ⟨w3.heap.size, 2, none⟩ = some (.slice ua1 o1.out.length uc1) := cell_heap HO1Z.out 2
  have a3 : Z.cell? ⟨w3.heap.size, 3, none⟩ = some (.int .i64 (o1.read : Nat)) := cell_heap HO1Z.out 3
  have a4 : Z.cell? ⟨w3.heap.size, 4, none⟩ = some (.int .i64 (o1.steps : Nat)) := cell_heap HO1Z.out 4
  have a5 : Z.cell? ⟨w3.heap.size, 5, none⟩ = some (.int .i64 o1.err) := cell_heap HO1Z.out 5
  have b0 : Z.cell? ⟨w4.heap.size, 0, none⟩ = some (.slice aa2 o2.arrays.length ac2) := cell_heap HO2.out 0
  have b1 : Z.cell? ⟨w4.heap.size, 1, none⟩ = some (.slice oa2 o2.objects.length oc2) := cell_heap HO2.out 1
  have b2 : Z.cell? ⟨w4.heap.size, 2, none⟩ = some (.slice ua2 o2.out.length uc2) := cell_heap HO2.out 2
  have b3 : Z.cell? ⟨w4.heap.size, 3, none⟩ = some (.int .i64 (o2.read : Nat)) := cell_heap HO2.out 3
  have b4 : Z.cell? ⟨w4.heap.size, 4, none⟩ = some (.int .i64 (o2.steps : Nat)) := cell_heap HO2.out 4
  have b5 : Z.cell? ⟨w4.heap.size, 5, none⟩ = some (.int .i64 o2.err) := cell_heap HO2.out 5
  clear hoc2' hva2 hvo2 hvu2 hB4 hBZ
  rcases HRF.out with ⟨_, e2, e1⟩ | ⟨_, e3, ⟨e13, e12⟩ | ⟨e13, es, el, ep, er⟩⟩
  · have k1 : o1.err = 3 := by rw [e1]
    have k2 : o2.err = 3 := by rw [e2]
    have k3 : ((o2.steps : Nat) : Int) = 0 := by rw [e2]; rfl
    have k4 : o2.out.length = 0 := by rw [e2]; rfl
    rw [k1] at a5
    rw [k2] at b5
    rw [k3] at b4
    rw [k4] at b2
    clear e1 e2 k1 k2 k3 k4 HRF
    go_wp2_with fail
    go_ret
    exact ⟨rfl, HB0Z.out⟩
  · subst e12
    have e3' : (o1.err == 3) = false := by simpa using e3
    have e13' : (o1.err == 13) = false := by simpa using e13
    clear HRF e3 e13
    go_wp2_with fail
    refine (equal_eq o1 _ _ Z HV1Z.out HV2Z.out).mono ?_
    rintro e w5 ⟨rfl, hB5⟩
    have HB5 := Lib.hid (HB0Z.out.trans (hB5.mono HB0Z.out.size))
    clear hB5
    go_wp2_with fail
    go_ret
    exact ⟨rfl, HB5.out⟩
  · have e3' : (o1.err == 3) = false := by simpa using e3
    have hst : ((o2.steps : Nat) : Int) = n := by omega
    have hel : n ≤ ((o1.steps : Nat) : Int) := by omega
    have hpl := ep.length_le
    have hpl' : ((o2.out.length : Nat) : Int) ≤ ((o1.out.length : Nat) : Int) := by omega
    have her : ((o2.read : Nat) : Int) ≤ ((o1.read : Nat) : Int) := by omega
    have hpc : ((o2.out.length : Nat) : Int) ≤ ((uc1 : Nat) : Int) := by omega
    have QO : Hid (∀ k, Calls Try.prog 23 #[.slice ua2 o2.out.length uc2, .slice ua1 o2.out.length uc1] (World.drewN Z k) (fun e w'' => e = .returned (.bool true) ∧ ∃ m, w'' = Z.drewN m)) := fun k =>
      (outputs_eq o2.out ua2 ua1 uc2 uc1 (World.drewN Z k) (HU2Z.out.below (below_dN _ _)) ((outs_prefix HU1Z.out ep).below (below_dN _ _))).mono (fun e w'' ⟨h1, m, h2⟩ => ⟨h1, k + m, by rw [h2]; simp⟩)
    rw [hst] at b4
    rw [e13] at b5
    clear HRF e3 e13 es el ep er hst HV1 HV1Z HV2Z HO1 HO1Z HO2 HU1 HU1Z HU2Z
    cases ua1 with
    | none =>
      obtain rfl : uc1 = 0 := hcn1 rfl
      have ho0 : o2.out.length = 0 := by omega
      rw [ho0] at b2 QO
      have ho1 : o1.out.length = 0 := by omega
      rw [ho1] at a2
      clear ho0 ho1 hpl hpl' hpc hcap1 hcap2 hlo1 hlo2
      go_wp2_with fail
      go_quiet (first | (go_at_call 23; with_reducible exact QO.out _))
      go_wp2_with fail
      go_ret
      exact ⟨rfl, HB0Z.out.trans ((below_dN _ _).mono HB0Z.out.size)⟩
    | some ad =>
      obtain ⟨ub, uo, us⟩ := ad
      go_wp2_with fail
      go_quiet (first | (go_at_call 23; with_reducible exact QO.out _))
      go_wp2_with fail
      go_ret
      exact ⟨rfl, HB0Z.out.trans ((below_dN _ _).mono HB0Z.out.size)⟩
end Go.Proofs.Ytjdfcpjlmfaaaaa
