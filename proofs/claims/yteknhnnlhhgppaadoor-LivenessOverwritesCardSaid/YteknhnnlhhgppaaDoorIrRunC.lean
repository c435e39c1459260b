/-
  Contract: Run (package ir).
-/
import Derived.Test.YteknhnnlhhgppaaDoorIrSetup
import Derived.Test.YteknhnnlhhgppaaDoorMg14
import Derived.Test.YteknhnnlhhgppaaDoorMg9
import Derived.Deep.RegionLaw
import Derived.StillTailTactics
import Derived.Laws.MakeOwn
import Derived.Laws.OwnMore
namespace Go.Proofs.YteknhnnlhhgppaaDoor
set_option linter.unusedVariables false
set_option linter.unusedSimpArgs false
open Go.RowKit
set_option maxRecDepth 100000

def fnNames (f : Fn) (shared : List (ByteArray × Int)) : List ByteArray := f.arrays.map (·.1) ++ shared.map (·.1)
def runFits (f : Fn) (shared : List (ByteArray × Int)) (arrays objects : List (List Int)) : Bool := fnOk f shared && matchOk f.arrays arrays && matchOk shared objects
def runGo (f : Fn) (shared : List (ByteArray × Int)) (arrays objects : List (List Int)) (inp : List Int) (fuel : Int) : Nat × Int × St :=
  go f.blocks (fnNames f shared) inp fuel.toNat 0 0 (St.init f.regs.toNat (arrays ++ objects))
def runOf (f : Fn) (shared : List (ByteArray × Int)) (arrays objects : List (List Int)) (inp : List Int) (fuel : Int) : Oc :=
  bif runFits f shared arrays objects then
    ⟨(runGo f shared arrays objects inp fuel).2.2.mem.take arrays.length, (runGo f shared arrays objects inp fuel).2.2.mem.drop arrays.length, (runGo f shared arrays objects inp fuel).2.2.out, (runGo f shared arrays objects inp fuel).2.2.read, (runGo f shared arrays objects inp fuel).1, (runGo f shared arrays objects inp fuel).2.1⟩
  else ⟨[], [], [], 0, 0, 3⟩

/-! ### names -/
theorem lookB_none {ns : List (ByteArray × Bool)} {s : ByteArray} : (lookB ns s).isSome = false ↔ s ∉ ns.map (·.1) := by
  unfold lookB
  cases hf : ns.find? (fun p => decide (p.1 = s)) with
  | none =>
    simp only [Option.map_none, Option.isSome_none, true_iff]
    intro hm
    obtain ⟨p, hp, he⟩ := List.mem_map.1 hm
    have := List.find?_eq_none.1 hf p hp
    simp at this
    exact this he
  | some p =>
    simp only [Option.map_some, Option.isSome_some, Bool.true_eq_false, false_iff, Classical.not_not]
    have h1 := List.find?_some hf
    simp at h1
    exact List.mem_map.2 ⟨p, List.mem_of_find?_eq_some hf, h1⟩
theorem addArrs_map : ∀ {l : List (ByteArray × Int)} {ns ms : List (ByteArray × Bool)}, addArrs ns l = some ms → (ns.map (·.1)).Nodup → ms.map (·.1) = ns.map (·.1) ++ l.map (·.1) ∧ (ms.map (·.1)).Nodup := by
  intro l
  induction l with
  | nil => intro ns ms h hn; cases h; exact ⟨by simp, hn⟩
  | cons p l ih =>
    intro ns ms h hn
    unfold addArrs at h
    cases hb : ((lookB ns p.1).isSome || decide (p.2 < 1) || decide (32 < p.2)) with
    | true => rw [hb] at h; cases h
    | false =>
      rw [hb] at h
      have h0 : (lookB ns p.1).isSome = false := by
        cases hq : (lookB ns p.1).isSome with
        | false => rfl
        | true => rw [hq] at hb; simp at hb
      have hn' : ((ns ++ [(p.1, true)]).map (·.1)).Nodup := by
        rw [List.map_append, List.nodup_append]
        refine ⟨hn, by simp, fun a ha b hb => ?_⟩
        simp at hb
        subst hb
        exact fun e => lookB_none.1 h0 (e ▸ ha)
      obtain ⟨h1, h2⟩ := ih (ns := ns ++ [(p.1, true)]) h hn'
      exact ⟨by rw [h1]; simp, h2⟩
theorem addObjs_map : ∀ {l : List (ByteArray × Int)} {ns ms : List (ByteArray × Bool)}, addObjs ns l = some ms → (ns.map (·.1)).Nodup → ms.map (·.1) = ns.map (·.1) ++ l.map (·.1) ∧ (ms.map (·.1)).Nodup := by
  intro l
  induction l with
  | nil => intro ns ms h hn; cases h; exact ⟨by simp, hn⟩
  | cons p l ih =>
    intro ns ms h hn
    unfold addObjs at h
    cases hb : (lookB ns p.1).isSome with
    | true => rw [hb] at h; cases h
    | false =>
      rw [hb] at h
      have hn' : ((ns ++ [(p.1, false)]).map (·.1)).Nodup := by
        rw [List.map_append, List.nodup_append]
        refine ⟨hn, by simp, fun a ha b hb' => ?_⟩
        simp at hb'
        subst hb'
        exact fun e => lookB_none.1 hb (e ▸ ha)
      obtain ⟨h1, h2⟩ := ih (ns := ns ++ [(p.1, false)]) h hn'
      exact ⟨by rw [h1]; simp, h2⟩
theorem namesOf_map {f : Fn} {shared : List (ByteArray × Int)} {ns : List (ByteArray × Bool)} (h : namesOf f shared = some ns) : ns.map (·.1) = fnNames f shared ∧ (fnNames f shared).Nodup := by
  unfold namesOf at h
  obtain ⟨ms, h1, h2⟩ := Option.bind_eq_some_iff.1 h
  obtain ⟨a1, a2⟩ := addArrs_map h1 (by simp)
  obtain ⟨b1, b2⟩ := addObjs_map h2 a2
  have e : ns.map (·.1) = fnNames f shared := by rw [b1, a1]; rfl
  exact ⟨e, e ▸ b2⟩
/-- what a valid function says -/
theorem fnOk_parts {f : Fn} {shared : List (ByteArray × Int)} (h : fnOk f shared = true) : 0 < f.blocks.length ∧ 0 ≤ f.regs ∧ f.regs ≤ 10000 ∧ f.arrays.length ≤ 4 ∧ ∃ ns, namesOf f shared = some ns ∧ f.blocks.all (blkOk f ns) = true := by
  unfold fnOk at h
  rw [Bool.and_eq_true, Bool.and_eq_true, Bool.and_eq_true, Bool.and_eq_true] at h
  obtain ⟨⟨⟨⟨h1, h2⟩, h3⟩, h4⟩, h5⟩ := h
  simp at h1 h2 h3 h4
  refine ⟨List.length_pos_iff.2 h1, h2, h3, h4, ?_⟩
  cases hn : namesOf f shared with
  | none => rw [hn] at h5; cases h5
  | some ns => rw [hn] at h5; exact ⟨ns, rfl, h5⟩
theorem match_eq : ∀ {l : List (ByteArray × Int)} {m : List (List Int)}, matchOk l m = true → l.length = m.length := by
  intro l m h
  by_cases hl : l.length = m.length
  · exact hl
  · rw [match_len hl] at h; cases h
theorem look_zip_none {names : List ByteArray} {s : ByteArray} : ∀ {vals : List Value}, s ∉ names → look (names.zip vals) s = none := by
  intro vals h
  unfold look
  have : (names.zip vals).find? (fun p => decide (p.1 = s)) = none := by
    rw [List.find?_eq_none]
    intro p hp
    have := (List.of_mem_zip hp).1
    simp
    rintro rfl
    exact h this
  rw [this]; rfl
theorem nodup_at {names : List ByteArray} (h : names.Nodup) {j : Nat} {s : ByteArray} (hj : names[j]? = some s) : s ∉ names.take j := by
  intro hm
  obtain ⟨hk, rfl⟩ := List.getElem?_eq_some_iff.1 hj
  obtain ⟨i, hi, he⟩ := List.getElem_of_mem hm
  rw [List.getElem_take] at he
  simp at hi
  have := (List.getElem_inj h).1 he
  omega
theorem zip_snoc {names : List ByteArray} {vals : List Value} {j : Nat} {s : ByteArray} {v : Value} (hj : names[j]? = some s) (hl : vals.length = j) : (names.take j).zip vals ++ [(s, v)] = (names.take (j + 1)).zip (vals ++ [v]) := by
  obtain ⟨hk, rfl⟩ := List.getElem?_eq_some_iff.1 hj
  rw [List.take_succ_eq_append_getElem hk, List.zip_append (by simp; omega)]
  simp

theorem row_cell {w : World} {base : Nat} {e : TypeId} {gb m n cap : Nat} {xs : List Value} {j : Nat} {u : Value} (h : w.ownsRow base e 1 (.slice (some ⟨gb, 0, none⟩) m cap) n xs) (_hm : m = n) (hu : xs[j]? = some u) : w.cell? ⟨gb, j, none⟩ = some u := by
  have := h.cells (v := .slice (some ⟨gb, 0, none⟩) m cap) rfl j u hu
  have e : (⟨gb, 0, none⟩ : Addr).add j = ⟨gb, j, none⟩ := by
    unfold Addr.add
    by_cases h0 : j = 0 <;> simp [h0]
  rwa [e] at this
theorem oc_none {w : World} : OcBoth w (.agg #[.slice none 0 0, .slice none 0 0, .slice none 0 0, .int .i64 0, .int .i64 0, .int .i64 3]) ⟨[], [], [], 0, 0, 3⟩ :=
  ⟨none, none, none, 0, 0, 0, rfl, ⟨⟨by decide, .inl rfl⟩, ⟨by decide, .inl rfl⟩, ⟨by decide, .inl rfl⟩, by decide, by decide, fun _ => rfl⟩, .inl rfl, .inl rfl⟩
theorem heap_new (w : World) (o : Obj) : (w.alloc o).heap[w.heap.size]? = some o := (MapKept.heap_alloc w o).1
theorem setAt_begin {w3 : World} {rn : Nat} {inv : Value} : SetAt w3.heap.size w3 rn inv ((((w3.alloc (.cells (w32 (List.replicate rn 0)).toArray 21)).alloc (.map #[] 0)).alloc (.cells (runCells ⟨w3.heap.size + 2, w3.heap.size, w3.heap.size + 1, [], inv⟩ (.slice none 0 0) (St.init rn [])) 147)).alloc (.cells (ocCells (.slice none 0 0) (.slice none 0 0)) 111)) [] (.slice none 0 0) (.slice none 0 0) [] [] [] := by
  generalize hR : Obj.cells (w32 (List.replicate rn 0)).toArray 21 = R
  generalize hB : Obj.cells (runCells ⟨w3.heap.size + 2, w3.heap.size, w3.heap.size + 1, [], inv⟩ (.slice none 0 0) (St.init rn [])) 147 = B
  generalize hO : Obj.cells (ocCells (.slice none 0 0) (.slice none 0 0)) 111 = O
  have s1 : (w3.alloc R).heap.size = w3.heap.size + 1 := by simp
  have s2 : ((w3.alloc R).alloc (.map #[] 0)).heap.size = w3.heap.size + 2 := by simp
  have s3 : (((w3.alloc R).alloc (.map #[] 0)).alloc B).heap.size = w3.heap.size + 3 := by simp
  refine ⟨((((Below.refl _ _).alloc (Nat.le_refl _) _).alloc (by omega) _).alloc (by omega) _).alloc (by omega) _, ?_, ?_, ?_, ?_, ⟨rfl, .inl ⟨rfl, rfl⟩⟩, ⟨rfl, .inl ⟨rfl, rfl⟩⟩, rfl, fun i hi => by simp at hi, .inl rfl, fun i hi => by simp at hi, fun i j hi => by simp at hi⟩
  · rw [Below.heap_alloc _ _ _ (by omega), Below.heap_alloc _ _ _ (by omega), Below.heap_alloc _ _ _ (by omega), heap_new, hR]
  · have := MapAt.made Tryd.prog 9 (w3.alloc R)
    rw [s1] at this
    exact (this.move (Below.heap_alloc _ _ _ (by omega))).move (Below.heap_alloc _ _ _ (by omega))
  · rw [Below.heap_alloc _ _ _ (by omega)]
    have := heap_new ((w3.alloc R).alloc (.map #[] 0)) B
    rw [s2] at this
    rw [this, hB]
  · have := heap_new (((w3.alloc R).alloc (.map #[] 0)).alloc B) O
    rw [s3] at this
    rw [this, hO]
set_option maxHeartbeats 16000000
/-- the same for all sizes that a memory can hold -/
theorem run_wide (f : Fn) (shared : List (ByteArray × Int)) (arrays objects : List (List Int)) (inp : List Int) (fuel : Int) (aa ba sa ara oba ia : Option Addr) (ac bc sc arc obc ic : Nat) (w : World) (hf : FnAt w f aa ba) (hs : ArrsAt w sa shared) (hsl : shared.length * 24 ≤ 140737488351232)
    (ha : ContAt w ara arrays) (ho : ContAt w oba objects) (hal : ∀ r ∈ arrays, r.length * 4 ≤ 140737488351232) (hol : ∀ r ∈ objects, r.length * 4 ≤ 140737488351232) (hin : WordsAt w ia inp) (hfu : fuel ≤ 4000000000) :
    Calls Tryd.prog 80 #[fnVal f.name f.regs aa f.arrays.length ac ba f.blocks.length bc, .slice sa shared.length sc, .slice ara arrays.length arc, .slice oba objects.length obc, .slice ia inp.length ic, .int .i64 fuel] w fun e w' =>
      ∃ v, e = .returned v ∧ OcBoth w' v (runOf f shared arrays objects inp fuel) ∧ Below w.heap.size w w' := by
  have HF := Lib.hid hf
  have HS := Lib.hid hs
  have HA := Lib.hid ha
  have HO := Lib.hid ho
  have HI := Lib.hid hin
  have la := hf.arrays.fits
  have ls := hs.fits
  have lA := ha.fits
  have lO := ho.fits
  clear hf hs ha ho hin
  obtain ⟨W, hW⟩ : ∃ W : World, (w.alloc (.cells #[.string f.name, .int .i64 f.regs, .slice aa f.arrays.length ac, .slice ba f.blocks.length bc] 25)).alloc (.cells (ocCells (.slice none 0 0) (.slice none 0 0)) 111) = W := ⟨_, rfl⟩
  have hWs : W.heap.size = w.heap.size + 2 := by rw [← hW]; simp
  have hBW : Below w.heap.size w W := by rw [← hW]; exact ((Below.refl _ _).alloc (Nat.le_refl _) _).alloc (by simp) _
  have HBW := Lib.hid hBW
  have x0 : W.cell? ⟨w.heap.size, 0, none⟩ = some (.string f.name) := by rw [← hW]; simp [World.cell?_alloc_past]
  have x1 : W.cell? ⟨w.heap.size, 1, none⟩ = some (.int .i64 f.regs) := by rw [← hW]; simp [World.cell?_alloc_past]
  have x2 : W.cell? ⟨w.heap.size, 2, none⟩ = some (.slice aa f.arrays.length ac) := by rw [← hW]; simp [World.cell?_alloc_past]
  have x3 : W.cell? ⟨w.heap.size, 3, none⟩ = some (.slice ba f.blocks.length bc) := by rw [← hW]; simp [World.cell?_alloc_past]
  have HX := Lib.hid (And.intro x0 (And.intro x1 (And.intro x2 x3)))
  have HT : Hid (W.heap[w.heap.size + 1]? = some (.cells (ocCells (.slice none 0 0) (.slice none 0 0)) 111)) := by show _ = _; rw [← hW]; exact MapKept.heap_alloc (w.alloc _) _ |>.1 |> fun h => by simpa using h
  unfold ocCells at hW
  clear hBW
  go_enter Tryd.func80, Tryd.ntmps80
  go_wp2_with fail
  clear hW
  refine (valid_any f shared aa ba sa ac bc sc W (HF.out.below HBW.out) (HS.out.below HBW.out) (by omega)).mono ?_
  rintro e w1 ⟨rfl, hB1⟩
  have HB1 := Lib.hid hB1
  clear hB1 x0 x1 x2 x3
  have HT1 : Hid (w1.heap[w.heap.size + 1]? = some (.cells (ocCells (.slice none 0 0) (.slice none 0 0)) 111)) := (HB1.out.block _ (by omega)).trans HT.out
  have HF1 := Lib.hid (HF.out.below HBW.out)
  cases hv : fnOk f shared with
  | false =>
    have HR : Hid (runOf f shared arrays objects inp fuel = ⟨[], [], [], 0, 0, 3⟩) := by show _ = _; unfold runOf runFits; rw [hv]; rfl
    have q0 := cell_heap HT1.out 0
    have q1 := cell_heap HT1.out 1
    have q2 := cell_heap HT1.out 2
    have q3 := cell_heap HT1.out 3
    have q4 := cell_heap HT1.out 4
    have q5 := cell_heap HT1.out 5
    have z := frozen_heap HT1.out
    simp only [ocCells, List.getElem?_toArray, List.getElem?_cons_zero, List.getElem?_cons_succ] at q0 q1 q2 q3 q4 q5
    go_wp2_with fail
    have HS6 := Lib.hid (six_set (v0 := .slice none 0 0) (v1 := .slice none 0 0) (v2 := .slice none 0 0) (v3 := .int .i64 0) (v4 := .int .i64 0) (v5 := .int .i64 3) HT1.out)
    have HB6 := Lib.hid (six_below (v0 := .slice none 0 0) (v1 := .slice none 0 0) (v2 := .slice none 0 0) (v3 := .int .i64 0) (v4 := .int .i64 0) (v5 := .int .i64 3) (b := w.heap.size + 1) (HBW.out.trans (HB1.out.mono (by omega))) (Nat.le_succ _))
    generalize World.setCell _ _ _ = X at HS6 HB6 ⊢
    have p0 := cell_heap HS6.out 0
    have p1 := cell_heap HS6.out 1
    have p2 := cell_heap HS6.out 2
    have p3 := cell_heap HS6.out 3
    have p4 := cell_heap HS6.out 4
    have p5 := cell_heap HS6.out 5
    simp only [List.getElem?_toArray, List.getElem?_cons_zero, List.getElem?_cons_succ] at p0 p1 p2 p3 p4 p5
    exact bodyPost_ret (v := .agg #[.slice none 0 0, .slice none 0 0, .slice none 0 0, .int .i64 0, .int .i64 0, .int .i64 3]) (by simp [results, Tryd.results80, go_sem, p0, p1, p2, p3, p4, p5]) rfl ⟨_, rfl, by rw [HR.out]; exact oc_none, HB6.out⟩
  | true =>
    have HV := Lib.hid hv
    obtain ⟨x0, x1, x2, x3⟩ := HX.out
    have y2 := (HB1.out.cell (p := ⟨w.heap.size, 2, none⟩) (by show w.heap.size < _; omega)).trans x2
    have HB01 := Lib.hid (HBW.out.trans (HB1.out.mono (by omega)))
    clear x0 x1 x2 x3 hv
    go_wp2_with fail
    refine (match_any f.arrays arrays aa ara ac arc w1 (HF.out.arrays.below HB01.out) (HA.out.below HB01.out)).mono ?_
    rintro e w2 ⟨rfl, hB2⟩
    have HB2 := Lib.hid (HB1.out.trans (hB2.mono HB1.out.size))
    clear hB2 y2
    have HT2 : Hid (w2.heap[w.heap.size + 1]? = some (.cells (ocCells (.slice none 0 0) (.slice none 0 0)) 111)) := (HB2.out.block _ (by omega)).trans HT.out
    cases hm1 : matchOk f.arrays arrays with
    | false =>
      have HR : Hid (runOf f shared arrays objects inp fuel = ⟨[], [], [], 0, 0, 3⟩) := by show _ = _; unfold runOf runFits; rw [hm1]; simp
      have q0 := cell_heap HT2.out 0
      have q1 := cell_heap HT2.out 1
      have q2 := cell_heap HT2.out 2
      have q3 := cell_heap HT2.out 3
      have q4 := cell_heap HT2.out 4
      have q5 := cell_heap HT2.out 5
      have z := frozen_heap HT2.out
      simp only [ocCells, List.getElem?_toArray, List.getElem?_cons_zero, List.getElem?_cons_succ] at q0 q1 q2 q3 q4 q5
      go_wp2_with fail
      have HS6 := Lib.hid (six_set (v0 := .slice none 0 0) (v1 := .slice none 0 0) (v2 := .slice none 0 0) (v3 := .int .i64 0) (v4 := .int .i64 0) (v5 := .int .i64 3) HT2.out)
      have HB6 := Lib.hid (six_below (v0 := .slice none 0 0) (v1 := .slice none 0 0) (v2 := .slice none 0 0) (v3 := .int .i64 0) (v4 := .int .i64 0) (v5 := .int .i64 3) (b := w.heap.size + 1) (HBW.out.trans (HB2.out.mono (by omega))) (Nat.le_succ _))
      generalize World.setCell _ _ _ = X at HS6 HB6 ⊢
      have p0 := cell_heap HS6.out 0
      have p1 := cell_heap HS6.out 1
      have p2 := cell_heap HS6.out 2
      have p3 := cell_heap HS6.out 3
      have p4 := cell_heap HS6.out 4
      have p5 := cell_heap HS6.out 5
      simp only [List.getElem?_toArray, List.getElem?_cons_zero, List.getElem?_cons_succ] at p0 p1 p2 p3 p4 p5
      exact bodyPost_ret (v := .agg #[.slice none 0 0, .slice none 0 0, .slice none 0 0, .int .i64 0, .int .i64 0, .int .i64 3]) (by simp [results, Tryd.results80, go_sem, p0, p1, p2, p3, p4, p5]) rfl ⟨_, rfl, by rw [HR.out]; exact oc_none, HB6.out⟩
    | true =>
      have HM1 := Lib.hid hm1
      have HB02 := Lib.hid (HBW.out.trans (HB2.out.mono (by omega)))
      clear hm1
      go_wp2_with fail
      refine (match_any shared objects sa oba sc obc w2 (HS.out.below HB02.out) (HO.out.below HB02.out)).mono ?_
      rintro e w3 ⟨rfl, hB3⟩
      have HB3 := Lib.hid (HB2.out.trans (hB3.mono HB2.out.size))
      clear hB3
      have HT3 : Hid (w3.heap[w.heap.size + 1]? = some (.cells (ocCells (.slice none 0 0) (.slice none 0 0)) 111)) := (HB3.out.block _ (by omega)).trans HT.out
      cases hm2 : matchOk shared objects with
      | false =>
        have HR : Hid (runOf f shared arrays objects inp fuel = ⟨[], [], [], 0, 0, 3⟩) := by show _ = _; unfold runOf runFits; rw [hm2]; simp
        have q0 := cell_heap HT3.out 0
        have q1 := cell_heap HT3.out 1
        have q2 := cell_heap HT3.out 2
        have q3 := cell_heap HT3.out 3
        have q4 := cell_heap HT3.out 4
        have q5 := cell_heap HT3.out 5
        have z := frozen_heap HT3.out
        simp only [ocCells, List.getElem?_toArray, List.getElem?_cons_zero, List.getElem?_cons_succ] at q0 q1 q2 q3 q4 q5
        go_wp2_with fail
        have HS6 := Lib.hid (six_set (v0 := .slice none 0 0) (v1 := .slice none 0 0) (v2 := .slice none 0 0) (v3 := .int .i64 0) (v4 := .int .i64 0) (v5 := .int .i64 3) HT3.out)
        have HB6 := Lib.hid (six_below (v0 := .slice none 0 0) (v1 := .slice none 0 0) (v2 := .slice none 0 0) (v3 := .int .i64 0) (v4 := .int .i64 0) (v5 := .int .i64 3) (b := w.heap.size + 1) (HBW.out.trans (HB3.out.mono (by omega))) (Nat.le_succ _))
        generalize World.setCell _ _ _ = X at HS6 HB6 ⊢
        have p0 := cell_heap HS6.out 0
        have p1 := cell_heap HS6.out 1
        have p2 := cell_heap HS6.out 2
        have p3 := cell_heap HS6.out 3
        have p4 := cell_heap HS6.out 4
        have p5 := cell_heap HS6.out 5
        simp only [List.getElem?_toArray, List.getElem?_cons_zero, List.getElem?_cons_succ] at p0 p1 p2 p3 p4 p5
        exact bodyPost_ret (v := .agg #[.slice none 0 0, .slice none 0 0, .slice none 0 0, .int .i64 0, .int .i64 0, .int .i64 3]) (by simp [results, Tryd.results80, go_sem, p0, p1, p2, p3, p4, p5]) rfl ⟨_, rfl, by rw [HR.out]; exact oc_none, HB6.out⟩
      | true =>
        have HM2 := Lib.hid hm2
        have HR : Hid (runFits f shared arrays objects = true) := by show _ = _; unfold runFits; rw [HV.out, HM1.out, hm2]; rfl
        have HB03 := Lib.hid (HBW.out.trans (HB3.out.mono (by omega)))
        clear hm2
        obtain ⟨hbl, hr0, hr1, hal4, ns, hns, hall⟩ := fnOk_parts HV.out
        obtain ⟨hnm, hnd⟩ := namesOf_map hns
        have HNS := Lib.hid hnm
        have HND := Lib.hid hnd
        have HALL := Lib.hid hall
        have hLA := match_eq HM1.out
        have hLO := match_eq HM2.out
        have HLA := Lib.hid hLA
        have HLO := Lib.hid hLO
        clear hns hnm hnd hall hLA hLO
        obtain ⟨rn, hrn⟩ : ∃ rn : Nat, f.regs = (rn : Int) := ⟨f.regs.toNat, by omega⟩
        have HRN := Lib.hid hrn
        obtain ⟨x0, x1, x2, x3⟩ := HX.out
        have y1 := (HB3.out.cell (p := ⟨w.heap.size, 1, none⟩) (by show w.heap.size < _; omega)).trans x1
        have y2 := (HB3.out.cell (p := ⟨w.heap.size, 2, none⟩) (by show w.heap.size < _; omega)).trans x2
        rw [hrn] at y1
        have hmk := make_run rn (by omega)
        have hmm := @run_makeMap Tryd.prog
        have h3s := HB3.out.size
        clear x0 x1 x2 x3 hrn
        have hw9 : w.heap.size < w3.heap.size := by omega
        have hw91 : w.heap.size < w3.heap.size + 1 := by omega
        have hw92 : w.heap.size < w3.heap.size + 1 + 1 := by omega
        have hw93 : w.heap.size < w3.heap.size + 1 + 1 + 1 := by omega
        go_wp2_with fail
        clear hmk hmm y1 y2
        go_loopw [47] (fun i wr => ∃ (j : Nat) (va : Value) (la : List Value), j ≤ f.arrays.length ∧ i = .int .i64 (j : Nat) ∧ la.length = j ∧ SetAt w3.heap.size w3 rn (.slice ia inp.length ic) wr (((fnNames f shared).take j).zip la) va (.slice none 0 0) la [] (arrays.take j)) (fun i _ => f.arrays.length - (intOf i).toNat)
        case atStart => exact ⟨0, .slice none 0 0, [], Nat.zero_le _, rfl, rfl, by have := setAt_begin (w3 := w3) (rn := rn) (inv := .slice ia inp.length ic); simpa [runCells, ocCells, St.init, Nat.add_assoc] using this⟩
        case round =>
          obtain ⟨j, va, la', hj, rfl, hll, hset⟩ := hrel
          have HSET := Lib.hid hset
          have hss := hset.size
          clear hset
          have hk0 : (0 : Int) ≤ (j : Int) := by omega
          have HBR := Lib.hid (HB03.out.trans (HSET.out.bel.mono (by omega)))
          by_cases hlt : j < f.arrays.length
          · skip
            obtain ⟨p, hp⟩ : ∃ p, f.arrays[j]? = some p := ⟨_, List.getElem?_eq_getElem hlt⟩
            obtain ⟨r, hr⟩ : ∃ r, arrays[j]? = some r := ⟨_, List.getElem?_eq_getElem (by have := HLA.out; omega)⟩
            have HP : Hid ((fnNames f shared)[j]? = some p.1) := by
              show _ = _
              unfold fnNames
              rw [List.getElem?_append_left (by simpa using hlt), List.getElem?_map, hp]
              rfl
            have HRW : Hid (arrays.take (j + 1) = arrays.take j ++ [r]) := by
              obtain ⟨hk, rfl⟩ := List.getElem?_eq_some_iff.1 hr
              exact List.take_succ_eq_append_getElem hk
            have hrl := hal r (List.mem_of_getElem? hr)
            have hps := HF.out.arrays.sizes p (List.mem_of_getElem? hp)
            rcases HF.out.arrays.at_ with h0 | ⟨fb, fo, rfl, hc⟩
            · omega
            rcases HA.out.at_ with h0 | ⟨ab, ao, rfl, hd⟩
            · have := HLA.out; omega
            obtain ⟨c1, c2⟩ := hc j p hp
            obtain ⟨ra, rc, c3, hra0, hra⟩ := hd j r hr
            have f1 := cell_below HBR.out c1
            have f2 := cell_below HBR.out c2
            have hfb9 : fb < wr.heap.size := World.block_lt_of_cell? _ _ f1
            have hk1 : (j : Int) < (f.arrays.length : Int) := by omega
            have hk2 : (j : Int) < (arrays.length : Int) := by have := HLA.out; omega
            obtain ⟨A, hA⟩ : ∃ A : World, wr.alloc (.cells #[.string p.1, .int .i64 p.2] 107) = A := ⟨_, rfl⟩
            have hBA : Below wr.heap.size wr A := by rw [← hA]; exact (Below.refl _ _).alloc (Nat.le_refl _) _
            have hAs : A.heap.size = wr.heap.size + 1 := by rw [← hA]; simp
            have HSA := Lib.hid (HSET.out.keep (by omega) hBA)
            have HBA := Lib.hid hBA
            have HBRA := Lib.hid (HBR.out.trans (hBA.mono HBR.out.size))
            have b0 : A.cell? ⟨wr.heap.size, 0, none⟩ = some (.string p.1) := by rw [← hA]; simp
            have g3 := cell_below HBRA.out c3
            have HWR := Lib.hid (hra.below HBRA.out)
            have m0 : A.cell? ⟨w3.heap.size + 1 + 1 + 1, 0, none⟩ = some va := cell_heap HSA.out.ob 0
            have HBD : Hid (Below A.heap.size A A.drew) := (Below.refl _ _).drew
            obtain ⟨i0, hi, hz0, hz1, hz2⟩ := info_parts Tryd.infoRow
            have HB0 := Lib.hid b0
            have hvo : ∀ k, va.ownBlock = some k → k < wr.heap.size := fun k hk => (ownsRow_lt HSET.out.oa hk).2
            have HVO := Lib.hid hvo
            clear hc hd hp hr c1 c2 c3 hra hBA hvo
            go_wp2_with fail
            clear hA f1 f2 b0
            go_region_law (first
              | (refine step_append_row rfl (.tmp 53) (.tmp 59) 65 rfl (w3.heap.size + 4) 66 i0 _ 1 24 Tryd.underlying65 hi hz0 hz1 hz2 rfl (by decide) va la'.length la' (by simp [Act.eval]) (HOA5.out.alloc _) ⟨w5.heap.size, 0, none⟩ 1 1 [.slice xa r.length xc] (by simp [Act.eval]) rfl (one_new w5 _) (by simp [Value.oneCell']) (by decide) (by unfold maxLen; omega) (by omega) (by simp; omega) ?_; intro gb cap w6 hown6 hgrow6 hplace6; have HST := Lib.hid (HSA.out.pushA (HB5.out.alloc h5s (.cells #[.slice xa r.length xc] 66)) (HROW.out.alloc _) hgrow6 hown6 hplace6); have HG6 := Lib.hid hgrow6; have m6 : w6.cell? ⟨w3.heap.size + 1 + 1 + 1, 0, none⟩ = some va := (cell_heap (((hgrow6.block (w3.heap.size + 3) (by simp; omega) (fun e => by have := HVO.out; have := (ownsRow_lt HSA.out.oa e.symm).1; omega)).trans (((HB5.out.alloc h5s (.cells #[.slice xa r.length xc] 66)).block _ (by omega)))).trans HSA.out.ob) 0); have z6 : w6.frozen? ⟨w3.heap.size + 1 + 1 + 1, 0, none⟩ = false := frozen_heap (((hgrow6.block (w3.heap.size + 3) (by simp; omega) (fun e => by have := (ownsRow_lt HSA.out.oa e.symm).1; omega)).trans (((HB5.out.alloc h5s (.cells #[.slice xa r.length xc] 66)).block _ (by omega)))).trans HSA.out.ob) 0; have HOW6 := Lib.hid hown6; clear hown6 hgrow6 hplace6)
              | (go_simp; go_at_call 90; ((with_reducible refine (wclone_any r ra rc _ (HWR.out.below HBD.out) hra0 hrl).mono ?_); rintro e w5 ⟨v, rfl, hrow, hB5⟩; obtain ⟨xa, xc, rfl⟩ := ownsRow_val hrow; have HB5 := Lib.hid (HBD.out.trans (hB5.mono HBD.out.size)); have h5s := HB5.out.size; have HROW := Lib.hid hrow; have HOA5 := Lib.hid (ownsRow_below HSA.out.oa HB5.out); have m5 : w5.cell? ⟨w3.heap.size + 1 + 1 + 1, 0, none⟩ = some va := (HB5.out.cell (p := ⟨w3.heap.size + 3, 0, none⟩) (by show w3.heap.size + 3 < _; omega)).trans m0; have h35 : w3.heap.size + 1 + 1 + 1 < w5.heap.size := (by omega); clear hrow hB5)))
            all_goals
              have HST' := Lib.hid HST.out
              rw [hll] at HST'
              obtain ⟨X, hX⟩ : ∃ X : World, w6.setCell ⟨w3.heap.size + 1 + 1 + 1, 0, none⟩ (.slice (some ⟨gb, 0, none⟩) (j + 1) cap) = X := ⟨_, rfl⟩
              have HSX : Hid (SetAt w3.heap.size w3 rn (.slice ia inp.length ic) X (((fnNames f shared).take j).zip la') (.slice (some ⟨gb, 0, none⟩) (j + 1) cap) (.slice none 0 0) (la' ++ [.slice xa r.length xc]) [] (arrays.take j ++ [r])) := by
                show SetAt _ _ _ _ _ _ _ _ _ _ _
                rw [← hX]
                exact HST'.out
              have e0 : X.cell? ⟨wr.heap.size, 0, none⟩ = some (.string p.1) := by
                rw [← hX]
                exact (World.cell?_of_block (a := ⟨wr.heap.size, 0, none⟩) (push_old (N := w3.heap.size) (k := wr.heap.size) (HB5.out.alloc h5s (.cells #[.slice xa r.length xc] 66)) HG6.out (by show wr.heap.size < _; omega) (fun e => by have := HVO.out _ e; omega) (by omega))).trans HB0.out
              rw [hX]
              clear hX HST HST' HOW6 HG6 m6 z6 HB5 HROW HOA5 m5 m0 g3
              have e5 : X.cell? ⟨w3.heap.size + 1 + 1, 5, none⟩ = some (.map (some (w3.heap.size + 1))) := cell_heap HSX.out.rb 5
              have e3 : X.cell? ⟨w3.heap.size + 1 + 1 + 1, 0, none⟩ = some (.slice (some ⟨gb, 0, none⟩) (j + 1) cap) := cell_heap HSX.out.ob 0
              have er : X.cell? ⟨gb, j, none⟩ = some (.slice xa r.length xc) := row_cell HSX.out.oa (by simp [hll]) (by rw [← hll]; simp)
              have hXs := HSX.out.size
              have hj1 : (j : Int) < ((j : Int) + 1) := by omega
              have HMX := Lib.hid (HSX.out.map.move (w' := X.drew) rfl)
              have HSD := Lib.hid (HSX.out.keep (by omega) (Below.refl _ _).drew)
              have HLN : Hid (look (((fnNames f shared).take j).zip la') p.1 = none) := look_zip_none (nodup_at HND.out HP.out)
              go_wp2_with fail
              go_still_tail 11, (by kernel_rfl)
              change wpList _ _ _ _ _ X.drew
              go_wp2_with (at_mapUpdate; refine wpList_mapStore _ rfl _ _ _ 144 rfl 9 66 Tryd.underlying9 Tryd.underlying144 (w3.heap.size + 1) (((fnNames f shared).take j).zip la') rfl HMX.out p.1 _ rfl rfl hps (by simp [maxLen]; omega) HLN.out ?_)
              intro w7 hm7 hg7
              have HN7 := Lib.hid (HSD.out.name hm7 hg7)
              clear hm7 hg7
              go_wp2_with fail
              go_roundw
              case rel => exact ⟨j + 1, _, la' ++ [.slice xa r.length xc], by omega, by go_num, by simp [hll], by have := HN7.out; rw [zip_snoc HP.out hll] at this; rw [HRW.out]; exact this⟩
              case measure => simp [intOf]; omega
          · obtain rfl : j = f.arrays.length := by omega
            have HSL : Hid (SetAt w3.heap.size w3 rn (.slice ia inp.length ic) wr (((fnNames f shared).take (f.arrays.length + 0)).zip (la' ++ [])) va (.slice none 0 0) la' [] (arrays ++ objects.take 0)) := by
              have := HSET.out
              rw [show arrays.take f.arrays.length = arrays from by rw [HLA.out]; exact List.take_length] at this
              show SetAt _ _ _ _ _ _ _ _ _ _ _
              simpa using this
            have hla : la'.length = f.arrays.length := hll
            clear HSET HBR hlt hll hj hk0 hss
            go_wp2_with fail
            go_loopw [76] (fun i wr => ∃ (j : Nat) (vo : Value) (lo : List Value), j ≤ shared.length ∧ i = .int .i64 (j : Nat) ∧ lo.length = j ∧ SetAt w3.heap.size w3 rn (.slice ia inp.length ic) wr (((fnNames f shared).take (f.arrays.length + j)).zip (la' ++ lo)) va vo la' lo (arrays ++ objects.take j)) (fun i _ => shared.length - (intOf i).toNat)
            case atStart => exact ⟨0, .slice none 0 0, [], Nat.zero_le _, rfl, rfl, HSL.out⟩
            case round =>
              clear HSL
              obtain ⟨j, vo, lo, hj, rfl, hll, hset⟩ := hrel
              have HSET := Lib.hid hset
              have hss := hset.size
              clear hset
              have hk0 : (0 : Int) ≤ (j : Int) := by omega
              have HBR := Lib.hid (HB03.out.trans (HSET.out.bel.mono (by omega)))
              by_cases hlt : j < shared.length
              · skip
                obtain ⟨p, hp⟩ : ∃ p, shared[j]? = some p := ⟨_, List.getElem?_eq_getElem hlt⟩
                obtain ⟨r, hr⟩ : ∃ r, objects[j]? = some r := ⟨_, List.getElem?_eq_getElem (by have := HLO.out; omega)⟩
                have HP : Hid ((fnNames f shared)[f.arrays.length + j]? = some p.1) := by
                  show _ = _
                  unfold fnNames
                  rw [List.getElem?_append_right (by simp), List.getElem?_map, List.length_map, Nat.add_sub_cancel_left, hp]
                  rfl
                have HRW : Hid (arrays ++ objects.take (j + 1) = arrays ++ objects.take j ++ [r]) := by
                  obtain ⟨hk, rfl⟩ := List.getElem?_eq_some_iff.1 hr
                  show _ = _
                  rw [List.take_succ_eq_append_getElem hk, List.append_assoc]
                have hrl := hol r (List.mem_of_getElem? hr)
                have hps := HS.out.sizes p (List.mem_of_getElem? hp)
                rcases HS.out.at_ with h0 | ⟨fb, fo, rfl, hc⟩
                · omega
                rcases HO.out.at_ with h0 | ⟨ab, ao, rfl, hd⟩
                · have := HLO.out; omega
                obtain ⟨c1, c2⟩ := hc j p hp
                obtain ⟨ra, rc, c3, hra0, hra⟩ := hd j r hr
                have f1 := cell_below HBR.out c1
                have f2 := cell_below HBR.out c2
                have hfb9 : fb < wr.heap.size := World.block_lt_of_cell? _ _ f1
                have hk1 : (j : Int) < (shared.length : Int) := by omega
                have hk2 : (j : Int) < (objects.length : Int) := by have := HLO.out; omega
                obtain ⟨A, hA⟩ : ∃ A : World, wr.alloc (.cells #[.string p.1, .int .i64 p.2] 107) = A := ⟨_, rfl⟩
                have hBA : Below wr.heap.size wr A := by rw [← hA]; exact (Below.refl _ _).alloc (Nat.le_refl _) _
                have hAs : A.heap.size = wr.heap.size + 1 := by rw [← hA]; simp
                have HSA := Lib.hid (HSET.out.keep (by omega) hBA)
                have HBA := Lib.hid hBA
                have HBRA := Lib.hid (HBR.out.trans (hBA.mono HBR.out.size))
                have b0 : A.cell? ⟨wr.heap.size, 0, none⟩ = some (.string p.1) := by rw [← hA]; simp
                have g3 := cell_below HBRA.out c3
                have HWR := Lib.hid (hra.below HBRA.out)
                have m0 : A.cell? ⟨w3.heap.size + 1 + 1 + 1, 1, none⟩ = some vo := cell_heap HSA.out.ob 1
                have HBD : Hid (Below A.heap.size A A.drew) := (Below.refl _ _).drew
                obtain ⟨i0, hi, hz0, hz1, hz2⟩ := info_parts Tryd.infoRow
                have HB0 := Lib.hid b0
                have hvo : ∀ k, vo.ownBlock = some k → k < wr.heap.size := fun k hk => (ownsRow_lt HSET.out.oo hk).2
                have HVO := Lib.hid hvo
                clear hc hd hp hr c1 c2 c3 hra hBA hvo
                go_wp2_with fail
                clear hA f1 f2 b0
                go_region_law (first
                  | (refine step_append_row rfl (.tmp 82) (.tmp 88) 65 rfl (w3.heap.size + 4) 66 i0 _ 1 24 Tryd.underlying65 hi hz0 hz1 hz2 rfl (by decide) vo lo.length lo (by simp [Act.eval]) (HOA5.out.alloc _) ⟨w5.heap.size, 0, none⟩ 1 1 [.slice xa r.length xc] (by simp [Act.eval]) rfl (one_new w5 _) (by simp [Value.oneCell']) (by decide) (by unfold maxLen; omega) (by omega) (by simp; omega) ?_; intro gb cap w6 hown6 hgrow6 hplace6; have HST := Lib.hid (HSA.out.pushB (HB5.out.alloc h5s (.cells #[.slice xa r.length xc] 66)) (HROW.out.alloc _) hgrow6 hown6 hplace6); have HG6 := Lib.hid hgrow6; have m6 : w6.cell? ⟨w3.heap.size + 1 + 1 + 1, 1, none⟩ = some vo := (cell_heap (((hgrow6.block (w3.heap.size + 3) (by simp; omega) (fun e => by have := HVO.out; have := (ownsRow_lt HSA.out.oo e.symm).1; omega)).trans (((HB5.out.alloc h5s (.cells #[.slice xa r.length xc] 66)).block _ (by omega)))).trans HSA.out.ob) 1); have z6 : w6.frozen? ⟨w3.heap.size + 1 + 1 + 1, 1, none⟩ = false := frozen_heap (((hgrow6.block (w3.heap.size + 3) (by simp; omega) (fun e => by have := (ownsRow_lt HSA.out.oo e.symm).1; omega)).trans (((HB5.out.alloc h5s (.cells #[.slice xa r.length xc] 66)).block _ (by omega)))).trans HSA.out.ob) 1; have HOW6 := Lib.hid hown6; clear hown6 hgrow6 hplace6)
                  | (go_simp; go_at_call 90; ((with_reducible refine (wclone_any r ra rc _ (HWR.out.below HBD.out) hra0 hrl).mono ?_); rintro e w5 ⟨v, rfl, hrow, hB5⟩; obtain ⟨xa, xc, rfl⟩ := ownsRow_val hrow; have HB5 := Lib.hid (HBD.out.trans (hB5.mono HBD.out.size)); have h5s := HB5.out.size; have HROW := Lib.hid hrow; have HOA5 := Lib.hid (ownsRow_below HSA.out.oo HB5.out); have m5 : w5.cell? ⟨w3.heap.size + 1 + 1 + 1, 1, none⟩ = some vo := (HB5.out.cell (p := ⟨w3.heap.size + 3, 1, none⟩) (by show w3.heap.size + 3 < _; omega)).trans m0; have h35 : w3.heap.size + 1 + 1 + 1 < w5.heap.size := (by omega); clear hrow hB5)))
                all_goals
                  have HST' := Lib.hid HST.out
                  rw [hll] at HST'
                  obtain ⟨X, hX⟩ : ∃ X : World, w6.setCell ⟨w3.heap.size + 1 + 1 + 1, 1, none⟩ (.slice (some ⟨gb, 0, none⟩) (j + 1) cap) = X := ⟨_, rfl⟩
                  have HSX : Hid (SetAt w3.heap.size w3 rn (.slice ia inp.length ic) X (((fnNames f shared).take (f.arrays.length + j)).zip (la' ++ lo)) va (.slice (some ⟨gb, 0, none⟩) (j + 1) cap) la' (lo ++ [.slice xa r.length xc]) (arrays ++ objects.take j ++ [r])) := by
                    show SetAt _ _ _ _ _ _ _ _ _ _ _
                    rw [← hX]
                    exact HST'.out
                  have e0 : X.cell? ⟨wr.heap.size, 0, none⟩ = some (.string p.1) := by
                    rw [← hX]
                    exact (World.cell?_of_block (a := ⟨wr.heap.size, 0, none⟩) (push_old (N := w3.heap.size) (k := wr.heap.size) (HB5.out.alloc h5s (.cells #[.slice xa r.length xc] 66)) HG6.out (by show wr.heap.size < _; omega) (fun e => by have := HVO.out _ e; omega) (by omega))).trans HB0.out
                  rw [hX]
                  clear hX HST HST' HOW6 HG6 m6 z6 HB5 HROW HOA5 m5 m0 g3
                  have e5 : X.cell? ⟨w3.heap.size + 1 + 1, 5, none⟩ = some (.map (some (w3.heap.size + 1))) := cell_heap HSX.out.rb 5
                  have e3 : X.cell? ⟨w3.heap.size + 1 + 1 + 1, 1, none⟩ = some (.slice (some ⟨gb, 0, none⟩) (j + 1) cap) := cell_heap HSX.out.ob 1
                  have er : X.cell? ⟨gb, j, none⟩ = some (.slice xa r.length xc) := row_cell HSX.out.oo (by simp [hll]) (by rw [← hll]; simp)
                  have hXs := HSX.out.size
                  have hj1 : (j : Int) < ((j : Int) + 1) := by omega
                  have HMX := Lib.hid (HSX.out.map.move (w' := X.drew) rfl)
                  have HSD := Lib.hid (HSX.out.keep (by omega) (Below.refl _ _).drew)
                  have HLN : Hid (look (((fnNames f shared).take (f.arrays.length + j)).zip (la' ++ lo)) p.1 = none) := look_zip_none (nodup_at HND.out HP.out)
                  go_wp2_with fail
                  go_still_tail 11, (by kernel_rfl)
                  change wpList _ _ _ _ _ X.drew
                  go_wp2_with (at_mapUpdate; refine wpList_mapStore _ rfl _ _ _ 144 rfl 9 66 Tryd.underlying9 Tryd.underlying144 (w3.heap.size + 1) (((fnNames f shared).take (f.arrays.length + j)).zip (la' ++ lo)) rfl HMX.out p.1 _ rfl rfl hps (by simp [maxLen]; omega) HLN.out ?_)
                  intro w7 hm7 hg7
                  have HN7 := Lib.hid (HSD.out.name hm7 hg7)
                  clear hm7 hg7
                  go_wp2_with fail
                  go_roundw
                  case rel => exact ⟨j + 1, _, lo ++ [.slice xa r.length xc], by omega, by go_num, by simp [hll], by have := HN7.out; rw [zip_snoc HP.out (by simp [hla, hll]), List.append_assoc] at this; rw [HRW.out]; exact this⟩
                  case measure => simp [intOf]; omega
              · obtain rfl : j = shared.length := by omega
                have HNAMES : Hid ((fnNames f shared).take (f.arrays.length + shared.length) = fnNames f shared) := List.take_of_length_le (by simp [fnNames])
                have HOB : Hid (arrays ++ objects.take shared.length = arrays ++ objects) := by show _ = _; rw [HLO.out, List.take_length]
                have HSF : Hid (SetAt w3.heap.size w3 rn (.slice ia inp.length ic) wr ((fnNames f shared).zip (la' ++ lo)) va vo la' lo (arrays ++ objects)) := by
                  have := HSET.out
                  rw [HNAMES.out, HOB.out] at this
                  exact this
                have HWM : Hid (∀ r ∈ arrays ++ objects, ∀ x ∈ r, Wd.W x) := fun r hr => by
                  rcases List.mem_append.1 hr with hr | hr
                  · exact HA.out.word hr
                  · exact HO.out.word hr
                have HRUN : Hid (RunAt w3.heap.size ⟨w3.heap.size + 2, w3.heap.size, w3.heap.size + 1, la' ++ lo, .slice ia inp.length ic⟩ (ns.map (·.1)) wr (.slice none 0 0) (St.init rn (arrays ++ objects))) := by
                  show RunAt _ _ _ _ _ _
                  rw [HNS.out]
                  exact HSF.out.ready (by have := HLA.out; have := HLO.out; simp [fnNames]; omega) HWM.out
                obtain ⟨x0, x1, x2, x3⟩ := HX.out
                have HBX := Lib.hid (HB3.out.trans (HSF.out.bel.mono (by omega)))
                have y0 := (HBX.out.cell (p := ⟨w.heap.size, 0, none⟩) (by show w.heap.size < _; omega)).trans x0
                have y1 := (HBX.out.cell (p := ⟨w.heap.size, 1, none⟩) (by show w.heap.size < _; omega)).trans x1
                have y2 := (HBX.out.cell (p := ⟨w.heap.size, 2, none⟩) (by show w.heap.size < _; omega)).trans x2
                have y3 := (HBX.out.cell (p := ⟨w.heap.size, 3, none⟩) (by show w.heap.size < _; omega)).trans x3
                clear x0 x1 x2 x3 HSET
                go_wp2_with fail
                clear y0 y1 y2 y3
                refine (execute_any w3.heap.size ⟨w3.heap.size + 2, w3.heap.size, w3.heap.size + 1, la' ++ lo, .slice ia inp.length ic⟩ ns inp f _ _ ac bc fuel w wr (.slice none 0 0) (St.init rn (arrays ++ objects)) 0 ia ic HRUN.out HF.out (by omega) HBR.out HALL.out hbl (by rw [HRN.out]; simp [St.init]) rfl HI.out hfu (by omega) (Nat.le_refl _) (Nat.le_refl _)).mono ?_
                rintro e w8 ⟨rfl, ov', hR8, hF8⟩
                obtain ⟨rr, hrr⟩ : ∃ rr, go f.blocks (ns.map (·.1)) inp fuel.toNat 0 0 (St.init rn (arrays ++ objects)) = rr := ⟨_, rfl⟩
                rw [hrr] at hR8 ⊢
                have HRR : Hid (runOf f shared arrays objects inp fuel = ⟨rr.2.2.mem.take la'.length, rr.2.2.mem.drop la'.length, rr.2.2.out, rr.2.2.read, rr.1, rr.2.1⟩) := by
                  have e1 : runGo f shared arrays objects inp fuel = rr := by
                    unfold runGo
                    rw [← HNS.out, show f.regs.toNat = rn from by rw [HRN.out]; rfl]
                    exact hrr
                  show _ = _
                  unfold runOf
                  rw [HR.out, e1, hla, HLA.out]
                  rfl
                have HR8 := Lib.hid hR8
                have HF8 := Lib.hid hF8
                clear hR8 hF8 hrr hla hll
                obtain ⟨ua, uc, rfl⟩ := ownsRow_val HR8.out.out
                obtain ⟨va1, va2, rfl⟩ := ownsRow_val HSF.out.oa
                obtain ⟨vo1, vo2, rfl⟩ := ownsRow_val HSF.out.oo
                obtain ⟨va, hva⟩ : ∃ v, Value.slice va1 la'.length va2 = v := ⟨_, rfl⟩
                obtain ⟨vo, hvo⟩ : ∃ v, Value.slice vo1 lo.length vo2 = v := ⟨_, rfl⟩
                obtain ⟨ov', hov⟩ : ∃ v, Value.slice ua rr.2.2.out.length uc = v := ⟨_, rfl⟩
                rw [hva, hvo] at HSF
                rw [hov] at HR8 HF8
                have HVA := Lib.hid hva
                have HVO := Lib.hid hvo
                have HOV := Lib.hid hov
                clear hva hvo hov
                have hwr8 := HF8.out.size
                have O8 : Hid (w8.heap[w3.heap.size + 3]? = some (.cells #[va, vo, .slice none 0 0, .int .i64 0, .int .i64 0, .int .i64 0] 111)) := (HF8.out.block _ (by omega) (HSF.out.notOurs (.inl rfl))).trans HSF.out.ob
                have HBW8 : Hid (Below w3.heap.size w3 w8) := HSF.out.bel.trans (HF8.out.below HRUN.out)
                have HRC : Hid (w8.heap[w3.heap.size + 2]? = some (.cells (runCells ⟨w3.heap.size + 2, w3.heap.size, w3.heap.size + 1, la' ++ lo, .slice ia inp.length ic⟩ ov' rr.2.2) 147)) := HR8.out.run
                obtain ⟨Y, hY⟩ : ∃ Y : World, (w8.setCell ⟨w3.heap.size + 1 + 1 + 1, 4, none⟩ (.int .i64 (rr.1 : Nat))).setCell ⟨w3.heap.size + 1 + 1 + 1, 5, none⟩ (.int .i64 rr.2.1) = Y := ⟨_, rfl⟩
                have OY : Hid (Y.heap[w3.heap.size + 3]? = some (.cells #[va, vo, .slice none 0 0, .int .i64 0, .int .i64 (rr.1 : Nat), .int .i64 rr.2.1] 111)) := by
                  have h1 := setCell_heap (i := 4) (v := .int .i64 (rr.1 : Nat)) O8.out
                  have h2 := setCell_heap (i := 5) (v := .int .i64 rr.2.1) h1
                  show _ = _
                  rw [← hY]
                  simpa using h2
                have OTH : Hid (∀ k, k ≠ w3.heap.size + 3 → Y.heap[k]? = w8.heap[k]?) := fun k hk => by
                  rw [← hY]
                  exact (Below.heap_setCell _ _ _ _ hk).trans (Below.heap_setCell _ _ _ _ hk)
                have HBY : Hid (Below w3.heap.size w3 Y) := by
                  show Below _ _ _
                  rw [← hY]
                  exact (HBW8.out.setCell (by show w3.heap.size ≤ w3.heap.size + 1 + 1 + 1; omega) _).setCell (by show w3.heap.size ≤ w3.heap.size + 1 + 1 + 1; omega) _
                have c4 : w8.cell? ⟨w3.heap.size + 1 + 1 + 1, 4, none⟩ = some (.int .i64 0) := cell_heap O8.out 4
                have c5 : w8.cell? ⟨w3.heap.size + 1 + 1 + 1, 5, none⟩ = some (.int .i64 0) := cell_heap O8.out 5
                have z8 : ∀ i, w8.frozen? ⟨w3.heap.size + 1 + 1 + 1, i, none⟩ = false := frozen_heap O8.out
                go_wp2_with fail
                clear hY c4 c5 z8
                have q9 : Y.cell? ⟨w3.heap.size + 1 + 1, 9, none⟩ = some ov' := cell_heap ((OTH.out (w3.heap.size + 2) (by omega)).trans HRC.out) 9
                have q10 : Y.cell? ⟨w3.heap.size + 1 + 1, 10, none⟩ = some (.int .i64 (rr.2.2.read : Nat)) := cell_heap ((OTH.out (w3.heap.size + 2) (by omega)).trans HRC.out) 10
                have o2 : Y.cell? ⟨w3.heap.size + 1 + 1 + 1, 2, none⟩ = some (.slice none 0 0) := cell_heap OY.out 2
                have o3 : Y.cell? ⟨w3.heap.size + 1 + 1 + 1, 3, none⟩ = some (.int .i64 0) := cell_heap OY.out 3
                have zY : ∀ i, Y.frozen? ⟨w3.heap.size + 1 + 1 + 1, i, none⟩ = false := frozen_heap OY.out
                have zY2 := zY 2
                have zY3 := zY 3
                obtain ⟨Z, hZ⟩ : ∃ Z : World, (Y.setCell ⟨w3.heap.size + 1 + 1 + 1, 2, none⟩ ov').setCell ⟨w3.heap.size + 1 + 1 + 1, 3, none⟩ (.int .i64 (rr.2.2.read : Nat)) = Z := ⟨_, rfl⟩
                have OZ : Hid (Z.heap[w3.heap.size + 3]? = some (.cells #[va, vo, ov', .int .i64 (rr.2.2.read : Nat), .int .i64 (rr.1 : Nat), .int .i64 rr.2.1] 111)) := by
                  have h1 := setCell_heap (i := 2) (v := ov') OY.out
                  have h2 := setCell_heap (i := 3) (v := .int .i64 (rr.2.2.read : Nat)) h1
                  show _ = _
                  rw [← hZ]
                  simpa using h2
                have OTZ : Hid (∀ k, k ≠ w3.heap.size + 3 → Z.heap[k]? = w8.heap[k]?) := fun k hk => by
                  rw [← hZ]
                  exact ((Below.heap_setCell _ _ _ _ hk).trans (Below.heap_setCell _ _ _ _ hk)).trans (OTH.out k hk)
                have HBZ : Hid (Below w3.heap.size w3 Z) := by
                  show Below _ _ _
                  rw [← hZ]
                  exact (HBY.out.setCell (by show w3.heap.size ≤ w3.heap.size + 1 + 1 + 1; omega) _).setCell (by show w3.heap.size ≤ w3.heap.size + 1 + 1 + 1; omega) _
                rw [← HOV.out] at q9 hZ
                go_region
                clear hZ q9 q10 o2 o3 zY zY2 zY3
                obtain ⟨T, hTT⟩ : ∃ T, Z.drew = T := ⟨_, rfl⟩
                have OT : Hid (T.heap[w3.heap.size + 3]? = some (.cells #[va, vo, ov', .int .i64 (rr.2.2.read : Nat), .int .i64 (rr.1 : Nat), .int .i64 rr.2.1] 111)) := by show _ = _; rw [← hTT]; exact OZ.out
                have OTT : Hid (∀ k, k ≠ w3.heap.size + 3 → T.heap[k]? = w8.heap[k]?) := fun k hk => by rw [← hTT]; exact OTZ.out k hk
                have HBT : Hid (Below w3.heap.size w3 T) := by show Below _ _ _; rw [← hTT]; exact HBZ.out.drew
                have HTT : Hid (T.heap[w.heap.size + 1]? = some (.cells (ocCells (.slice none 0 0) (.slice none 0 0)) 111)) := (HBT.out.block _ (by omega)).trans HT3.out
                rw [hTT]
                clear hTT
                have t0 : T.cell? ⟨w3.heap.size + 1 + 1 + 1, 0, none⟩ = some va := cell_heap OT.out 0
                have t1 : T.cell? ⟨w3.heap.size + 1 + 1 + 1, 1, none⟩ = some vo := cell_heap OT.out 1
                have t2 : T.cell? ⟨w3.heap.size + 1 + 1 + 1, 2, none⟩ = some ov' := cell_heap OT.out 2
                have t3 : T.cell? ⟨w3.heap.size + 1 + 1 + 1, 3, none⟩ = some (.int .i64 (rr.2.2.read : Nat)) := cell_heap OT.out 3
                have t4 : T.cell? ⟨w3.heap.size + 1 + 1 + 1, 4, none⟩ = some (.int .i64 (rr.1 : Nat)) := cell_heap OT.out 4
                have t5 : T.cell? ⟨w3.heap.size + 1 + 1 + 1, 5, none⟩ = some (.int .i64 rr.2.1) := cell_heap OT.out 5
                rw [← HVA.out] at t0
                rw [← HVO.out] at t1
                rw [← HOV.out] at t2
                have q0 : T.cell? ⟨w.heap.size + 1, 0, none⟩ = some (.slice none 0 0) := cell_heap HTT.out 0
                have q1 : T.cell? ⟨w.heap.size + 1, 1, none⟩ = some (.slice none 0 0) := cell_heap HTT.out 1
                have q2 : T.cell? ⟨w.heap.size + 1, 2, none⟩ = some (.slice none 0 0) := cell_heap HTT.out 2
                have q3 : T.cell? ⟨w.heap.size + 1, 3, none⟩ = some (.int .i64 0) := cell_heap HTT.out 3
                have q4 : T.cell? ⟨w.heap.size + 1, 4, none⟩ = some (.int .i64 0) := cell_heap HTT.out 4
                have q5 : T.cell? ⟨w.heap.size + 1, 5, none⟩ = some (.int .i64 0) := cell_heap HTT.out 5
                have z : ∀ i, T.frozen? ⟨w.heap.size + 1, i, none⟩ = false := frozen_heap HTT.out
                go_wp2_with fail
                have HS6 := Lib.hid (six_set (v0 := .slice va1 la'.length va2) (v1 := .slice vo1 lo.length vo2) (v2 := .slice ua rr.2.2.out.length uc) (v3 := .int .i64 (rr.2.2.read : Nat)) (v4 := .int .i64 (rr.1 : Nat)) (v5 := .int .i64 rr.2.1) HTT.out)
                have HB6 := Lib.hid (six_below (v0 := .slice va1 la'.length va2) (v1 := .slice vo1 lo.length vo2) (v2 := .slice ua rr.2.2.out.length uc) (v3 := .int .i64 (rr.2.2.read : Nat)) (v4 := .int .i64 (rr.1 : Nat)) (v5 := .int .i64 rr.2.1) (b := w.heap.size + 1) (HB03.out.trans (HBT.out.mono (by omega))) (Nat.le_succ _))
                have HO6 : Hid (∀ k, k ≠ w3.heap.size + 3 → k ≠ w.heap.size + 1 → ((((((T.setCell ⟨w.heap.size + 1, 0, none⟩ (.slice va1 la'.length va2)).setCell ⟨w.heap.size + 1, 1, none⟩ (.slice vo1 lo.length vo2)).setCell ⟨w.heap.size + 1, 2, none⟩ (.slice ua rr.2.2.out.length uc)).setCell ⟨w.heap.size + 1, 3, none⟩ (.int .i64 (rr.2.2.read : Nat))).setCell ⟨w.heap.size + 1, 4, none⟩ (.int .i64 (rr.1 : Nat))).setCell ⟨w.heap.size + 1, 5, none⟩ (.int .i64 rr.2.1)).heap[k]? = w8.heap[k]?) := fun k hk1 hk2 => (six_other hk2).trans (OTT.out k hk1)
                generalize World.setCell _ _ _ = X at HS6 HB6 HO6 ⊢
                have HFIN := Lib.hid (finish (t := w.heap.size + 1) (X := X) (steps := rr.1) (err := rr.2.1) HSF.out HF8.out HR8.out (by omega) HO6.out)
                rw [← HVA.out, ← HVO.out, ← HOV.out] at HFIN
                have p0 := cell_heap HS6.out 0
                have p1 := cell_heap HS6.out 1
                have p2 := cell_heap HS6.out 2
                have p3 := cell_heap HS6.out 3
                have p4 := cell_heap HS6.out 4
                have p5 := cell_heap HS6.out 5
                simp only [List.getElem?_toArray, List.getElem?_cons_zero, List.getElem?_cons_succ] at p0 p1 p2 p3 p4 p5
                exact bodyPost_ret (v := .agg #[.slice va1 la'.length va2, .slice vo1 lo.length vo2, .slice ua rr.2.2.out.length uc, .int .i64 (rr.2.2.read : Nat), .int .i64 (rr.1 : Nat), .int .i64 rr.2.1]) (by simp [results, Tryd.results80, go_sem, p0, p1, p2, p3, p4, p5]) rfl ⟨_, rfl, by rw [HRR.out]; exact HFIN.out, HB6.out⟩
theorem run_any (f : Fn) (shared : List (ByteArray × Int)) (arrays objects : List (List Int)) (inp : List Int) (fuel : Int) (aa ba sa ara oba ia : Option Addr) (ac bc sc arc obc ic : Nat) (w : World) (hf : FnAt w f aa ba) (hs : ArrsAt w sa shared) (hsl : shared.length ≤ 1000000)
    (ha : ContAt w ara arrays) (ho : ContAt w oba objects) (hal : ∀ r ∈ arrays, r.length ≤ 1000000) (hol : ∀ r ∈ objects, r.length ≤ 1000000) (hin : WordsAt w ia inp) (hfu : fuel ≤ 4000000000) :
    Calls Tryd.prog 80 #[fnVal f.name f.regs aa f.arrays.length ac ba f.blocks.length bc, .slice sa shared.length sc, .slice ara arrays.length arc, .slice oba objects.length obc, .slice ia inp.length ic, .int .i64 fuel] w fun e w' =>
      ∃ v, e = .returned v ∧ OcAt w' v (runOf f shared arrays objects inp fuel) ∧ Below w.heap.size w w' :=
  (run_wide f shared arrays objects inp fuel aa ba sa ara oba ia ac bc sc arc obc ic w hf hs (by omega) ha ho (fun r hr => by have := hal r hr; omega) (fun r hr => by have := hol r hr; omega) hin hfu).mono fun e w' ⟨v, h1, h2, h3⟩ => ⟨v, h1, h2.oc, h3⟩
end Go.Proofs.YteknhnnlhhgppaaDoor
