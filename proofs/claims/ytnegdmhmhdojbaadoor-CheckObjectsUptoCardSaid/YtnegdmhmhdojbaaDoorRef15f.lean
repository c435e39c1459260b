/-
  Contract of the reference (package ontimeref15): Check.
-/
import Derived.Test.YtnegdmhmhdojbaaDoorRef15e
namespace Go.Proofs.YtnegdmhmhdojbaaDoor
set_option linter.unusedVariables false
set_option linter.unusedSimpArgs false
open Go.RowKit
set_option maxRecDepth 100000
set_option maxHeartbeats 16000000

theorem arrs_take {w : World} {a : Option Addr} {l : List Arr} (h : ArrsAt w a l) (k : Nat) : ArrsAt w a (l.take k) := by
  refine ⟨by have := h.1; rw [List.length_take]; omega, fun i hi => ?_⟩
  rw [List.length_take] at hi
  obtain ⟨b, off, ha, hc⟩ := h.2 i (by omega)
  have e : (l.take k).getD i Arr.none = l.getD i Arr.none := by
    rw [List.getD_eq_getElem?_getD, List.getD_eq_getElem?_getD, List.getElem?_take_of_lt (by omega)]
  rw [e]
  exact ⟨b, off, ha, hc⟩
theorem declF_le (known : ByteArray → Bool) : ∀ (l so : List ByteArray), (declF known so l).length ≤ l.length
  | [], so => Nat.zero_le _
  | x :: l, so => by
    have := declF_le known l (so ++ [x])
    rw [declF, List.length_append, List.length_cons]
    split <;> simp <;> omega
theorem bodyF_le (p : Prg) (t : Tsk) (l : List (List Int × Tree)) : (bodyF p t l).length ≤ l.length := by
  induction l with
  | nil => exact Nat.zero_le _
  | cons x l ih =>
    have e : bodyF p t (x :: l) = (if oneP p t x.1 x.2 = 0 then [] else [Flt.mk x.1 (oneP p t x.1 x.2) x.2.name]) ++ bodyF p t l := rfl
    rw [e, List.length_append, List.length_cons]
    split <;> simp <;> omega
theorem refTaskF_le {p : Prg} {i : Nat} {t : Tsk} (h : tskOk t = true) : (refTaskF p i t).length ≤ 417 := by
  obtain ⟨h1, h2, h3⟩ := tskOk_le h
  have a1 := declF_le (memB (p.shared.map (·.name))) (t.vars ++ t.arrays.map (·.name)) []
  have a2 := bodyF_le p t (t.body.items [])
  rw [items_len] at a2
  rw [List.length_append, List.length_map] at a1
  have a3 : (tw0 p i t).length ≤ 1 := by unfold tw0; split <;> simp
  unfold refTaskF
  rw [List.length_append, List.length_append]
  omega
/-- what the reference finds in the tasks up to n -/
def refTasksF (p : Prg) : Nat → List TFlt
  | 0 => []
  | n + 1 => refTasksF p n ++ (refTaskF p n (p.tasks.getD n Tsk.none)).map (TFlt.mk (n : Int))
def refF (p : Prg) : List TFlt := (declF (fun _ => false) [] (p.shared.map (·.name))).map (TFlt.mk (-1)) ++ refTasksF p p.tasks.length
theorem list10 {α : Type} {l : List α} (h : l.length = 10) : ∃ a0 a1 a2 a3 a4 a5 a6 a7 a8 a9, l = [a0, a1, a2, a3, a4, a5, a6, a7, a8, a9] := by
  match l, h with
  | [a0, a1, a2, a3, a4, a5, a6, a7, a8, a9], _ => exact ⟨a0, a1, a2, a3, a4, a5, a6, a7, a8, a9, rfl⟩
theorem refcheck_any (p : Prg) (w : World) (sa ta : Option Addr) (sc tc : Nat) (hp : PrgAt w p sa ta) (hok : prgOk p = true) (hsc : p.shared.length ≤ sc) :
    Calls Tryd.prog 17 #[p.val sa sc ta tc] w fun e w' => ∃ v L, e = .returned v ∧ RF w.heap.size w' v L ∧ flat L = refF p ∧ L.length ≤ 4000 ∧ Below w.heap.size w w' := by
  obtain ⟨ri, hri, rz0, rz1, rz2⟩ := info_parts rflt_info
  have hsl := hp.1.1
  have htl := hp.2.1
  have HSC := Lib.hid hsc
  have HOK := Lib.hid hok
  have HLE := Lib.hid (prgOk_le hok)
  obtain ⟨W, hW⟩ : ∃ W : World, w.alloc (prgObj p sa sc ta tc) = W := ⟨_, rfl⟩
  have hB : Below w.heap.size w W := by rw [← hW]; exact mem_alloc _ _
  have hX : W.heap[w.heap.size]? = some (prgObj p sa sc ta tc) := by rw [← hW]; exact mem_new _ _
  have HLT := Lib.hid (mem_lt hX)
  have HBW := Lib.hid hB
  have HK : Hid (∀ w', Below W.heap.size W w' → Below w.heap.size w w' ∧ w'.cell? ⟨w.heap.size, 0, none⟩ = some (.slice sa p.shared.length sc) ∧ w'.cell? ⟨w.heap.size, 1, none⟩ = some (.slice ta p.tasks.length tc) ∧ PrgAt w' p sa ta) := fun w' h => by
    have hb := HBW.out.trans (h.mono HBW.out.size)
    exact ⟨hb, mem_cell (mem_keep hX h) 0, mem_cell (mem_keep hX h) 1, hp.below hb⟩
  obtain ⟨RL, hRL⟩ : ∃ RL, refF p = RL := ⟨_, rfl⟩
  rw [hRL]
  have HRL := Lib.hid hRL
  clear hRL hp hok hsc hB hX
  go_enter Tryd.func17, Tryd.ntmps17
  go_wp2_with fail
  clear hW
  go_loopw [3, 4] (fun v iv wr => ∃ (k : Nat) (L : List FltP), k ≤ p.shared.length ∧ iv = .int .i64 (k : Int) ∧ RF W.heap.size wr v L ∧ flat L = (declF (fun _ => false) [] ((p.shared.map (·.name)).take k)).map (TFlt.mk (-1)) ∧ L.length ≤ k ∧ Below W.heap.size W wr) (fun _ iv _ => p.shared.length - (intOf iv).toNat)
  case atStart => exact ⟨0, [], Nat.zero_le _, rfl, RF.nil, by rw [List.take_zero]; rfl, Nat.zero_le _, Below.refl _ _⟩
  case round =>
    obtain ⟨k, L, hk, rfl, hrf, hfl, hll, hBr⟩ := hrel
    have HRF := Lib.hid hrf
    have HFL := Lib.hid hfl
    have HBK := Lib.hid hBr
    have hk0 : (0 : Int) ≤ (k : Int) := by omega
    have hs4 : p.shared.length ≤ 4 := HLE.out.1
    obtain ⟨v1, c1, rfl⟩ := own_val hrf.ro
    obtain ⟨_, y0, y1, hpg⟩ := HK.out wr hBr
    clear hrf hfl hBr y1
    by_cases hlk : k < p.shared.length
    ·
      have hlk2 : (k : Int) < (p.shared.length : Int) := by omega
      have hkc : k ≤ sc := by have := HSC.out; omega
      have hkc2 : (k : Int) ≤ (sc : Int) := by omega
      obtain ⟨sb, so, rfl, ⟨hnm, _⟩⟩ := hpg.1.2 k hlk
      obtain ⟨x, hx⟩ : ∃ x, (p.shared.getD k Arr.none).name = x := ⟨_, rfl⟩
      rw [hx] at hnm
      have HNM : Hid (∀ w', Below wr.heap.size wr w' → w'.cell? ⟨sb, so + k * 2, none⟩ = some (.string x) ∧ w'.cell? ⟨w.heap.size, 0, none⟩ = some (.slice (some ⟨sb, so, none⟩) p.shared.length sc)) := fun w' h => ⟨cell_below h hnm, cell_below h y0⟩
      have HNX : Hid (declF (fun _ => false) [] ((p.shared.map (·.name)).take (k + 1)) = declF (fun _ => false) [] ((p.shared.map (·.name)).take k) ++ (if memB ((p.shared.take k).map (·.name)) x = true then [Flt.mk [] 8 x] else [])) := by
        show _ = _
        have e : (p.shared.map (·.name)).take (k + 1) = (p.shared.map (·.name)).take k ++ [x] := by
          rw [← List.map_take, take_more (d := Arr.none) hlk, List.map_append, List.map_cons, List.map_nil, hx, List.map_take]
        rw [e, declF_snoc, List.map_take, List.nil_append, Bool.false_or]
      obtain ⟨dd, hdd⟩ : ∃ dd, memB ((p.shared.take k).map (·.name)) x = dd := ⟨_, rfl⟩
      have htk : (p.shared.take k).length = k := by rw [List.length_take]; omega
      have HDD : Hid (∀ w', Below wr.heap.size wr w' → Calls Tryd.prog 51 #[.slice (some ⟨sb, so, none⟩) k sc, .string x] w' fun e w'' => e = .returned (.bool dd) ∧ Below w'.heap.size w' w'') := fun w' h => by
        have h9 := declared_any (p.shared.take k) x w' (some ⟨sb, so, none⟩) sc (arrs_take (hpg.1.below h) k)
        rw [htk, hdd] at h9
        exact h9
      rw [hdd] at HNX
      clear hdd htk hx hnm
      go_wp2_with fail
      clear y0
      refine cut_runA (RunEndV 13 10 (.bool dd) (fun w' => Below wr.heap.size wr w')) ?_ ?_
      · refine wp_region_held_drew (S := fun w' => Below wr.heap.size wr w') (by kernel_rfl) ((Below.refl _ _).drew) (fun hHeld => ?_)
        generalize hwd : World.drew _ = v0 at hHeld ⊢
        clear hwd hpg
        refine wpAnyH_take (i := 0) (v := .pointer (some ⟨w.heap.size, 0, none⟩)) rfl (by kernel_rfl) (by kernel_rfl) (by kernel_rfl) (fun _ _ _ h => h) (Or.inl ⟨by rfl, ?_⟩) (by assumption) ?_
        · intro w' hSw; go_simp
        (try simp only [Act.put, List.getElem_toArray, List.getElem_cons_zero, List.setIfInBounds_toArray, List.set_cons_zero, List.set_cons_succ])
        refine wpAnyH_take (i := 1) (v := .slice (some ⟨sb, so, none⟩) p.shared.length sc) rfl (by kernel_rfl) (by kernel_rfl) (by kernel_rfl) (fun _ _ _ h => h) (Or.inl ⟨by rfl, ?_⟩) (by assumption) ?_
        · intro w' hSw; obtain ⟨c0, c1⟩ := HNM.out _ hSw; go_simp
        (try simp only [Act.put, List.getElem_toArray, List.getElem_cons_zero, List.getElem_cons_succ, List.setIfInBounds_toArray, List.set_cons_zero, List.set_cons_succ])
        refine wpAnyH_take (i := 2) (v := .int .i64 (k : Int)) rfl (by kernel_rfl) (by kernel_rfl) (by kernel_rfl) (fun _ _ _ h => h) (Or.inl ⟨by rfl, ?_⟩) (by assumption) ?_
        · intro w' hSw; go_simp
        (try simp only [Act.put, List.getElem_toArray, List.getElem_cons_zero, List.getElem_cons_succ, List.setIfInBounds_toArray, List.set_cons_zero, List.set_cons_succ])
        refine wpAnyH_take (i := 3) (v := .slice (some ⟨sb, so, none⟩) k sc) rfl (by kernel_rfl) (by kernel_rfl) (by kernel_rfl) (fun _ _ _ h => h) (Or.inl ⟨by rfl, ?_⟩) (by assumption) ?_
        · intro w' hSw; go_simp
        (try simp only [Act.put, List.getElem_toArray, List.getElem_cons_zero, List.getElem_cons_succ, List.setIfInBounds_toArray, List.set_cons_zero, List.set_cons_succ])
        refine wpAnyH_take (i := 4) (v := .pointer (some ⟨w.heap.size, 0, none⟩)) rfl (by kernel_rfl) (by kernel_rfl) (by kernel_rfl) (fun _ _ _ h => h) (Or.inl ⟨by rfl, ?_⟩) (by assumption) ?_
        · intro w' hSw; go_simp
        (try simp only [Act.put, List.getElem_toArray, List.getElem_cons_zero, List.getElem_cons_succ, List.setIfInBounds_toArray, List.set_cons_zero, List.set_cons_succ])
        refine wpAnyH_take (i := 5) (v := .slice (some ⟨sb, so, none⟩) p.shared.length sc) rfl (by kernel_rfl) (by kernel_rfl) (by kernel_rfl) (fun _ _ _ h => h) (Or.inl ⟨by rfl, ?_⟩) (by assumption) ?_
        · intro w' hSw; obtain ⟨c0, c1⟩ := HNM.out _ hSw; go_simp
        (try simp only [Act.put, List.getElem_toArray, List.getElem_cons_zero, List.getElem_cons_succ, List.setIfInBounds_toArray, List.set_cons_zero, List.set_cons_succ])
        refine wpAnyH_take (i := 6) (v := .int .i64 (k : Int)) rfl (by kernel_rfl) (by kernel_rfl) (by kernel_rfl) (fun _ _ _ h => h) (Or.inl ⟨by rfl, ?_⟩) (by assumption) ?_
        · intro w' hSw; go_simp
        (try simp only [Act.put, List.getElem_toArray, List.getElem_cons_zero, List.getElem_cons_succ, List.setIfInBounds_toArray, List.set_cons_zero, List.set_cons_succ])
        refine wpAnyH_take (i := 7) (v := .pointer (some ⟨sb, so + k * 2, none⟩)) rfl (by kernel_rfl) (by kernel_rfl) (by kernel_rfl) (fun _ _ _ h => h) (Or.inl ⟨by rfl, ?_⟩) (by assumption) ?_
        · intro w' hSw; go_simp
        (try simp only [Act.put, List.getElem_toArray, List.getElem_cons_zero, List.getElem_cons_succ, List.setIfInBounds_toArray, List.set_cons_zero, List.set_cons_succ])
        refine wpAnyH_take (i := 8) (v := .pointer (some ⟨sb, so + k * 2, none⟩)) rfl (by kernel_rfl) (by kernel_rfl) (by kernel_rfl) (fun _ _ _ h => h) (Or.inl ⟨by rfl, ?_⟩) (by assumption) ?_
        · intro w' hSw; go_simp
        (try simp only [Act.put, List.getElem_toArray, List.getElem_cons_zero, List.getElem_cons_succ, List.setIfInBounds_toArray, List.set_cons_zero, List.set_cons_succ])
        refine wpAnyH_take (i := 9) (v := .string x) rfl (by kernel_rfl) (by kernel_rfl) (by kernel_rfl) (fun _ _ _ h => h) (Or.inl ⟨by rfl, ?_⟩) (by assumption) ?_
        · intro w' hSw; obtain ⟨c0, c1⟩ := HNM.out _ hSw; go_simp
        (try simp only [Act.put, List.getElem_toArray, List.getElem_cons_zero, List.getElem_cons_succ, List.setIfInBounds_toArray, List.set_cons_zero, List.set_cons_succ])
        refine wpAnyH_ready (rs := [10]) (by kernel_rfl) (by simp) (AllReadyH.cons rfl (fun K hK => ?_) AllReadyH.nil)
        go_simp
        have h9 := HDD.out v0 hHeld
        refine h9.mono ?_
        clear h9
        rintro e w6 ⟨rfl, hB6⟩
        have HB6 := Lib.hid (mem_then hHeld hB6)
        clear hB6
        refine hK.out _ _ (HB6.out) (fun hHeld => ?_)
        clear hK K
        rename_i hOld
        clear hOld
        (try simp only [Act.put, List.getElem_toArray, List.getElem_cons_zero, List.getElem_cons_succ, List.setIfInBounds_toArray, List.set_cons_zero, List.set_cons_succ])
        refine wpAnyH_done (by kernel_rfl) ?_ _
        exact ⟨[_, _, _, _, _, _, _, _, _, _], rfl, (by simp only [List.cons_append, List.nil_append, putAll, List.setIfInBounds_toArray, List.set_cons_zero, List.set_cons_succ]; rfl), HB6.out⟩
      · rintro a' w7 ⟨ll, hll2, rfl, hB7⟩
        obtain ⟨l0, l1, l2, l3, l4, l5, l6, l7, l8, l9, rfl⟩ := list10 hll2
        simp only [List.cons_append, List.nil_append, putAll, List.setIfInBounds_toArray, List.set_cons_zero, List.set_cons_succ]
        obtain ⟨c0, c9⟩ := HNM.out w7 hB7
        have HB7 := Lib.hid (mem_then HBK.out hB7)
        have HRF7 := Lib.hid (HRF.out.keep hB7)
        clear hll2 hB7 hpg
        cases dd with
        | true =>
          obtain ⟨n, hn⟩ : ∃ n, L.length = n := ⟨_, rfl⟩
          have HNN := Lib.hid hn
          have hnl : n ≤ 100 := by omega
          have HRO : Hid (w7.ownsRow W.heap.size 35 4 (.slice v1 n c1) n (L.flatMap FltP.cells)) := by show World.ownsRow _ _ _ _ _ _ _; rw [← hn]; exact HRF7.out.ro
          rw [hn]
          clear hn
          go_wp2_with (at_builtin; refine wpList_append_src _ rfl (.tmp 24) (.tmp 32) 31 rfl W.heap.size 35 ri _ 4 56 Tryd.underlying31 hri rz0 rz1 rz2 rfl (by decide) (.slice v1 n c1) n (L.flatMap FltP.cells) rfl (own_below HRO.out (mem_alloc _ _)) (some ⟨w7.heap.size, 0, none⟩) 1 1 [.int .i64 (-1), .slice none 0 0, .int .i64 8, .string x] rfl (one_src (cs := [.int .i64 (-1), .slice none 0 0, .int .i64 8, .string x]) (n := 1) (mem_new _ _) rfl) (by simp [Value.oneCell']) (by unfold maxLen; omega) (by omega) (by have := HB7.out.size; simp; omega) ?_)
          intro v9 w9 hown9 hgrow9 _
          have hgrow8 : (w7.alloc (.cells #[.int .i64 (-1), .slice none 0 0, .int .i64 8, .string x] 35)).grownBy w9 (Value.slice v1 L.length c1).ownBlock := by rw [HNN.out]; exact hgrow9
          rw [← HNN.out] at hown9
          have HRF9 := Lib.hid (RF.add (L6 := [⟨-1, ⟨[], 8, x⟩, .slice none 0 0⟩]) HRF7.out (mem_alloc w7 _) (fun f hf => by obtain rfl := List.mem_singleton.1 hf; exact World.ownsRow_nil _ _ _ _) hown9 hgrow8)
          have HB9 := Lib.hid ((mem_then HB7.out (mem_alloc w7 _)).grown hgrow9 (mem_then HB7.out (mem_alloc w7 _)).size (fun b hb => (own_lt HRO.out hb).1))
          clear hown9 hgrow9 hgrow8 c0 c9
          go_wp2_with fail
          go_roundw
          case rel => exact ⟨k + 1, _, by omega, by go_num, HRF9.out, by rw [HNX.out, flat_append, HFL.out, List.map_append]; rfl, by rw [List.length_append]; simp; omega, HB9.out⟩
          case measure => simp [intOf]; omega
        | false =>
          clear c0 c9
          go_wp2_with fail
          go_roundw
          case rel => exact ⟨k + 1, L, by omega, by go_num, HRF7.out, by rw [HNX.out, HFL.out]; simp, by omega, HB7.out⟩
          case measure => simp [intOf]; omega
    · obtain rfl : k = p.shared.length := by omega
      have HFL2 : Hid (flat L = (declF (fun _ => false) [] (p.shared.map (·.name))).map (TFlt.mk (-1))) := by show _ = _; rw [HFL.out, List.take_of_length_le (by simp)]
      have hll3 : L.length ≤ 4 := by omega
      clear hpg
      go_wp2_with fail
      clear y0
      go_loopw [3, 5] (fun v iv wr => ∃ (k : Nat) (L : List FltP), k ≤ p.tasks.length ∧ iv = .int .i64 (k : Int) ∧ RF W.heap.size wr v L ∧ flat L = (declF (fun _ => false) [] (p.shared.map (·.name))).map (TFlt.mk (-1)) ++ refTasksF p k ∧ L.length ≤ 4 + 417 * k ∧ Below W.heap.size W wr) (fun _ iv _ => p.tasks.length - (intOf iv).toNat)
      case atStart => exact ⟨0, L, Nat.zero_le _, rfl, HRF.out, by rw [HFL2.out]; simp [refTasksF], by omega, HBK.out⟩
      case round =>
        clear HRF HFL HBK HFL2 hll3 hll hk hk0
        obtain ⟨k, L, hk, rfl, hrf, hfl, hll, hBr⟩ := hrel
        have HRF := Lib.hid hrf
        have HFL := Lib.hid hfl
        have HBK := Lib.hid hBr
        have hk0 : (0 : Int) ≤ (k : Int) := by omega
        have ht8 : p.tasks.length ≤ 8 := HLE.out.2.1
        obtain ⟨v1, c1, rfl⟩ := own_val hrf.ro
        obtain ⟨_, y0, y1, hpg⟩ := HK.out wr hBr
        clear hrf hfl hBr
        by_cases hlk : k < p.tasks.length
        · have hlk2 : (k : Int) < (p.tasks.length : Int) := by omega
          obtain ⟨FL, hFL⟩ : ∃ FL, refTaskF p k (p.tasks.getD k Tsk.none) = FL := ⟨_, rfl⟩
          have hfll : FL.length ≤ 417 := by rw [← hFL]; exact refTaskF_le (HLE.out.2.2 k hlk)
          have h8 := reftask_any p k (p.tasks.getD k Tsk.none) wr sa ta sc tc hpg hlk rfl HOK.out
          rw [hFL] at h8
          have H8 := Lib.hid h8
          have HNX : Hid (refTasksF p (k + 1) = refTasksF p k ++ FL.map (TFlt.mk (k : Int))) := by show _ = _; rw [refTasksF, hFL]
          clear hpg hFL h8
          go_wp2_with fail
          have h9 := H8.out
          refine h9.mono ?_
          clear h9
          rintro e w6 ⟨v6, L6, rfl, h6, hf6, hB6⟩
          have hl6 : L6.length ≤ 417 := by
            have h := congrArg List.length hf6
            rw [flat_len, List.length_map] at h
            omega
          obtain ⟨a6, c6, rfl⟩ := own_val h6.ro
          have HRF6 := Lib.hid (HRF.out.keep hB6)
          have H6 := Lib.hid h6
          have HF6 := Lib.hid hf6
          have HB6 := Lib.hid (mem_then HBK.out hB6)
          have HBR6 := Lib.hid hB6
          obtain ⟨n, hn⟩ : ∃ n, L.length = n := ⟨_, rfl⟩
          have HNN := Lib.hid hn
          obtain ⟨m, hm⟩ : ∃ m, L6.length = m := ⟨_, rfl⟩
          have HMM := Lib.hid hm
          have hnl : n ≤ 100000 := by omega
          have hml : m ≤ 1000 := by omega
          have HRO : Hid (w6.ownsRow W.heap.size 35 4 (.slice v1 n c1) n (L.flatMap FltP.cells)) := by show World.ownsRow _ _ _ _ _ _ _; rw [← hn]; exact HRF6.out.ro
          have HRS : Hid (Src w6 a6 m 4 (L6.flatMap FltP.cells)) := by show Src _ _ _ _ _; rw [← hm]; exact own_src h6.ro
          have HON : Hid (∀ u ∈ L6.flatMap FltP.cells, u.oneCell' = true) := h6.ones
          rw [hn, hm]
          clear h6 hf6 hB6 hn hm y0 y1
          go_wp2_with (at_builtin; refine wpList_append_src _ rfl (.tmp 41) (.tmp 44) 31 rfl W.heap.size 35 ri _ 4 56 Tryd.underlying31 hri rz0 rz1 rz2 rfl (by decide) (.slice v1 n c1) n (L.flatMap FltP.cells) rfl HRO.out a6 m c6 (L6.flatMap FltP.cells) rfl HRS.out HON.out (by unfold maxLen; omega) (by omega) (by have := HB6.out.size; omega) ?_)
          intro v9 w9 hown9 hgrow9 _
          have hgrow8 : w6.grownBy w9 (Value.slice v1 L.length c1).ownBlock := by rw [HNN.out]; exact hgrow9
          rw [← HNN.out, ← HMM.out] at hown9
          have HRF9 := Lib.hid (RF.add (L6 := L6) HRF6.out (Below.refl _ _) (fun f hf => ownsRow_base (H6.out.ri f hf) HBK.out.size) hown9 hgrow8)
          have HB9 := Lib.hid (HB6.out.grown hgrow9 HB6.out.size (fun b hb => (own_lt HRO.out hb).1))
          clear hown9 hgrow9 hgrow8
          go_wp2_with fail
          go_roundw
          case rel => exact ⟨k + 1, _, by omega, by go_num, HRF9.out, by rw [HNX.out, flat_append, HFL.out, HF6.out, List.append_assoc], by rw [List.length_append, HNN.out, HMM.out]; have := HNN.out; have := HMM.out; omega, HB9.out⟩
          case measure => simp [intOf]; omega
        · obtain rfl : k = p.tasks.length := by omega
          have HEND : Hid (flat L = RL) := by show _ = _; rw [HFL.out, ← HRL.out]; rfl
          clear hpg
          go_wp2_with fail
          go_ret
          exact ⟨_, L, rfl, HRF.out.base HBW.out.size, HEND.out, by omega, (HK.out _ HBK.out).1⟩
end Go.Proofs.YtnegdmhmhdojbaaDoor
