/-
  Mg38: several texts in one (InsRow, InsAny).
-/
import Derived.Test.YteknhnnlhhgppaaDoorMg37
import Derived.Lib.AppendZerosOnto
import Derived.Test.YteknhnnlhhgppaaDoorMg16
import Derived.Shelf.Spec.SlicesInsert
import Derived.Deep.RegionHeld
import Derived.Deep.RegionLaw
/-
  slices.Insert of one instruction into a row of the call's own: what its operations do (layer 19). No program is named here.
-/
namespace Go.Proofs.YteknhnnlhhgppaaDoor
set_option linter.unusedVariables false
set_option linter.unusedSimpArgs false
open Go.RowKit
set_option maxRecDepth 100000

theorem setRow_get {w : World} {g : Nat} {cs cur : Array Value} {t : TypeId} (h : w.heap[g]? = some (.cells cur t (0, 0))) : (w.setRow g cs).heap[g]? = some (.cells cs t (0, 0)) := setRow_heap w g cur cs t (0, 0) h
theorem setRow_of {w W : World} {g : Nat} {cs : Array Value} (h : W.heap = w.heap) : (W.setRow g cs).heap = (w.setRow g cs).heap := by
  unfold World.setRow
  rw [h]
theorem cell_of_heap {w W : World} (h : W.heap = w.heap) (x : Addr) : W.cell? x = w.cell? x := World.cell?_of_block (by rw [h])
theorem ins_shift {P : Program} (w : World) (N : Nat) (t e : TypeId) (ht : P.underlying t = some (.slice e)) (hs : (P.info? e).map (·.size) = some 6) (g n c i vb : Nat) (xs vs : List Value) (hown : w.ownsRow N e 6 (.slice (some ⟨g, 0, none⟩) n c) n xs)
    (hi : i < n) (hroom : n + 1 ≤ c) (hvb : vb ≠ g) (hvl : vs.length = 6) (hvs : ∀ j v, vs[j]? = some v → w.cell? ⟨vb, j, none⟩ = some v) (h1c : ∀ v ∈ xs, v.oneCell' = true) (h1v : ∀ v ∈ vs, v.oneCell' = true) :
    ∃ R1 R2 : Array Value, (∀ W : World, W.heap = w.heap → ∀ ty dc sc, (Builtin.copy_ #[t, t] ty #[.slice (some ⟨g, (i + 1) * 6, none⟩) (n - i) dc, .slice (some ⟨g, i * 6, none⟩) (n + 1 - i) sc]).run P W = .ok (goInt ((n - i : Nat) : Int)) (W.setRow g R1)) ∧
      (∀ W : World, W.heap = (w.setRow g R1).heap → ∀ ty dc vc, (Builtin.copy_ #[t, t] ty #[.slice (some ⟨g, i * 6, none⟩) (n + 1 - i) dc, .slice (some ⟨vb, 0, none⟩) 1 vc]).run P W = .ok (goInt 1) (W.setRow g R2)) ∧
      (∀ W : World, W.heap = (w.setRow g R1).heap → W.os = w.os → W.tape = w.tape → W.output = w.output → (W.setRow g R2).ownsRow N e 6 (.slice (some ⟨g, 0, none⟩) (n + 1) c) (n + 1) (spl xs (i * 6) vs) ∧ w.grownBy (W.setRow g R2) (some g)) := by
  obtain ⟨hxl, hown⟩ := hown
  rcases hown with ⟨h0, _⟩ | ⟨g', cap, cur, hv, hN, hg, hnc, hcm, hcs, htk⟩
  · cases h0
  cases hv
  have hcl : cur.toList.length = c * 6 := by rw [Array.length_toList]; exact hcs
  have hcl2 : n * 6 + 6 ≤ cur.toList.length := by omega
  have hk1 : (i + 1) * 6 = i * 6 + 6 := by omega
  have hdl : (xs.drop (i * 6)).length = n * 6 - i * 6 := by rw [List.length_drop, hxl]
  have hsp := spl_shift (vs := vs) (i := i * 6) (n := n * 6) (m := 6) htk hxl (by omega) hvl hcl2
  refine ⟨(cur.toList.take (i * 6 + 6) ++ xs.drop (i * 6) ++ cur.toList.drop (i * 6 + 6 + (xs.drop (i * 6)).length)).toArray,
    (((cur.toList.take (i * 6 + 6) ++ xs.drop (i * 6) ++ cur.toList.drop (i * 6 + 6 + (xs.drop (i * 6)).length)).toArray.toList.take (i * 6)) ++ vs ++ ((cur.toList.take (i * 6 + 6) ++ xs.drop (i * 6) ++ cur.toList.drop (i * 6 + 6 + (xs.drop (i * 6)).length)).toArray.toList.drop (i * 6 + vs.length))).toArray, fun W hW ty dc sc => ?_, fun W hW ty dc vc => ?_, fun W hW h1 h2 h3 => ?_⟩
  · rw [hk1]
    refine run_copy_rowN W t t ty e 6 g (i * 6 + 6) (n - i) dc ⟨g, i * 6, none⟩ (n + 1 - i) sc (n - i) cur e (xs.drop (i * 6)) ht hs (by rw [hW]; exact hg) (by simp only [Nat.min_def]; split <;> omega) (by rw [hdl, Nat.sub_mul]) (fun j v hj => ?_) (by rw [hdl, hcs]; omega) (fun v hv => h1c v (List.mem_of_mem_drop hv))
    rw [own_addr_add, cell_of_heap hW, cell_of_row w g _ cur e (0, 0) hg]
    rw [List.getElem?_drop, ← htk, List.getElem?_take] at hj
    split at hj
    · simpa using hj
    · cases hj
  · refine run_copy_rowN W t t ty e 6 g (i * 6) (n + 1 - i) dc ⟨vb, 0, none⟩ 1 vc 1 _ e vs ht hs (by rw [hW]; exact setRow_get hg) (by simp only [Nat.min_def]; split <;> omega) (by rw [hvl]) (fun j v hj => ?_) ?_ h1v
    · rw [own_addr_add, Nat.zero_add, cell_of_heap hW, World.cell?_of_block (w := w) (setRow_far hvb)]
      exact hvs j v hj
    · rw [List.size_toArray, hvl]
      simp only [List.length_append, List.length_take, List.length_drop]
      omega
  · refine ⟨⟨?_, .inr ⟨g, c, _, rfl, hN, setRow_get (by rw [hW]; exact setRow_get hg), hroom, hcm, ?_, ?_⟩⟩, h1, h2, h3, ?_, fun k hk hne => ?_⟩
    · rw [spl_len (by rw [hxl]; omega), hxl, hvl]; omega
    · rw [List.size_toArray, List.toList_toArray, hsp.2, hcl]
    · rw [List.toList_toArray, List.toList_toArray, show (n + 1) * 6 = n * 6 + 6 by omega]
      exact hsp.1
    · show w.heap.size ≤ (W.setRow g _).heap.size
      rw [setRow_size, hW, setRow_size]
      exact Nat.le_refl _
    · have hkg : k ≠ g := fun e => hne (by rw [e])
      rw [setRow_far hkg, hW, setRow_far hkg]
theorem ins_grow {P : Program} (w : World) (N : Nat) (t tn e : TypeId) (i0 : TypeInfo) (z : Value) (ht : P.underlying t = some (.slice e)) (htn : P.underlying tn = some (.int .i64)) (hi0 : P.info? e = some i0) (hz : i0.zero = some z) (hzl : z.cells.size = 6) (hsz : i0.size = 6) (hby : i0.bytes = 56)
    (g n c i vb : Nat) (xs vs : List Value) (hown : w.ownsRow N e 6 (.slice (some ⟨g, 0, none⟩) n c) n xs) (hNw : N ≤ w.heap.size)
    (hi : i < n) (hroom : c < n + 1) (hn : n ≤ 1000000) (hvb : vb < w.heap.size) (hvl : vs.length = 6) (hvs : ∀ j v, vs[j]? = some v → w.cell? ⟨vb, j, none⟩ = some v) (h1c : ∀ v ∈ xs, v.oneCell' = true) (h1v : ∀ v ∈ vs, v.oneCell' = true) :
    ∃ (G : Nat) (ROW RA RB : Array Value), n + 1 ≤ G ∧ G ≤ 9223372036854775807 ∧ (∀ ty, (Builtin.append_ #[t, tn] ty #[.slice (some ⟨g, 0, none⟩) i c, .int .i64 ((n : Int) + 1 - (i : Int))]).run P w = .ok (.slice (some ⟨w.heap.size, 0, none⟩) (n + 1) G) (w.drew.alloc (.cells ROW e))) ∧
      (∀ W : World, W.heap = (w.alloc (.cells ROW e)).heap → ∀ ty dc vc, (Builtin.copy_ #[t, t] ty #[.slice (some ⟨w.heap.size, i * 6, none⟩) (n + 1 - i) dc, .slice (some ⟨vb, 0, none⟩) 1 vc]).run P W = .ok (goInt 1) (W.setRow w.heap.size RA)) ∧
      (∀ W : World, W.heap = ((w.alloc (.cells ROW e)).setRow w.heap.size RA).heap → ∀ ty dc sc, (Builtin.copy_ #[t, t] ty #[.slice (some ⟨w.heap.size, (i + 1) * 6, none⟩) (n - i) dc, .slice (some ⟨g, i * 6, none⟩) (n - i) sc]).run P W = .ok (goInt ((n - i : Nat) : Int)) (W.setRow w.heap.size RB)) ∧
      (∀ W : World, W.heap = ((w.alloc (.cells ROW e)).setRow w.heap.size RA).heap → W.os = w.os → W.tape = w.tape → W.output = w.output → (W.setRow w.heap.size RB).ownsRow N e 6 (.slice (some ⟨w.heap.size, 0, none⟩) (n + 1) G) (n + 1) (spl xs (i * 6) vs) ∧ w.grownBy (W.setRow w.heap.size RB) (some g)) := by
  obtain ⟨hxl, hown⟩ := hown
  rcases hown with ⟨h0, _⟩ | ⟨g', cap, cur, hv, hN, hg, hnc, hcm, hcs, htk⟩
  · cases h0
  cases hv
  have hgl : g < w.heap.size := (Array.getElem?_eq_some_iff.1 hg).1
  have hs : (P.info? e).map (·.size) = some 6 := by rw [hi0]; simp [hsz]
  have hxc : ∀ (j : Nat) (v : Value), xs[j]? = some v → w.cell? ⟨g, j, none⟩ = some v := fun j v hj => by
    rw [cell_of_row w g _ cur e (0, 0) hg]
    rw [← htk, List.getElem?_take] at hj
    split at hj
    · simpa using hj
    · cases hj
  have hold : (Builtin.firstCells i0.size i (.slice (some ⟨g, 0, none⟩) i c)).run P w.drew = .ok (xs.take (i * 6)).toArray w.drew := by
    rw [hsz]
    refine run_firstCells_some w.drew 6 i ⟨g, 0, none⟩ i c (xs.take (i * 6)) (by rw [List.length_take, hxl]; omega) (fun j v hj => ?_)
    rw [own_addr_add, Nat.zero_add]
    rw [List.getElem?_take] at hj
    split at hj
    · exact hxc j v hj
    · cases hj
  have hik : i + (n + 1 - i) = n + 1 := by omega
  have hkk : (n : Int) + 1 - (i : Int) = ((n + 1 - i : Nat) : Int) := by omega
  obtain ⟨G, hG⟩ : ∃ G, G = grownCap w (n + 1) c e := ⟨_, rfl⟩
  have hGn : n + 1 ≤ G := by rw [hG]; exact grownCap_ge w _ _ _
  have hGm : G ≤ maxLen := by rw [hG]; exact grownCap_le_maxLen w (n + 1) c e (by unfold maxLen; omega)
  obtain ⟨ROW, hROW⟩ : ∃ ROW : Array Value, ROW = (xs.take (i * 6)).toArray ++ Builtin.zeroCells z.cells (n + 1 - i) ++ Builtin.zeroCells z.cells (G - (n + 1)) := ⟨_, rfl⟩
  have hRs : ROW.size = G * 6 := by
    rw [hROW]
    simp only [Array.size_append, List.size_toArray, size_zeroCells, hzl, List.length_take, hxl]
    omega
  have hRt : ROW.toList.take (i * 6) = xs.take (i * 6) := by
    rw [hROW]
    simp only [Array.toList_append, List.append_assoc]
    rw [List.take_append_of_le_length (by simp; omega), List.take_of_length_le (by simp; omega)]
  have hdl : (xs.drop (i * 6)).length = n * 6 - i * 6 := by rw [List.length_drop, hxl]
  have hRl : ROW.toList.length = G * 6 := by rw [Array.length_toList]; exact hRs
  have hsp := spl_grow (cur := ROW.toList) (vs := vs) (i := i * 6) (n := n * 6) (m := 6) hRt hxl (by omega) hvl (by omega)
  have hnew : (w.alloc (.cells ROW e)).heap[w.heap.size]? = some (.cells ROW e (0, 0)) := heap_alloc_new w _
  have hold2 : ∀ k, k < w.heap.size → (w.alloc (.cells ROW e)).heap[k]? = w.heap[k]? := fun k hk => (World.grownBy_alloc w (.cells ROW e) none).block k hk (by simp)
  have hgn : g ≠ w.heap.size := by omega
  refine ⟨G, ROW, (ROW.toList.take (i * 6) ++ vs ++ ROW.toList.drop (i * 6 + vs.length)).toArray,
    ((ROW.toList.take (i * 6) ++ vs ++ ROW.toList.drop (i * 6 + vs.length)).toArray.toList.take (i * 6 + 6) ++ xs.drop (i * 6) ++ (ROW.toList.take (i * 6) ++ vs ++ ROW.toList.drop (i * 6 + vs.length)).toArray.toList.drop (i * 6 + 6 + (xs.drop (i * 6)).length)).toArray,
    hGn, by unfold maxLen at hGm; omega, fun ty => ?_, fun W hW ty dc vc => ?_, fun W hW ty dc sc => ?_, fun W hW h1 h2 h3 => ?_⟩
  · have h := Lib.run_append_grow_zeros w t tn ty e i0 z .i64 .i64 ht htn hi0 hz (some ⟨g, 0, none⟩) i c (xs.take (i * 6)) hold (n + 1 - i) (by omega) (by omega) (by omega) (by omega) (by rw [hby]; omega) (by rw [hby, hik]; exact growslice_fits hroom (by omega))
    rw [hik, ← hG, ← hROW] at h
    rw [hkk]
    exact h
  · refine run_copy_rowN W t t ty e 6 w.heap.size (i * 6) (n + 1 - i) dc ⟨vb, 0, none⟩ 1 vc 1 ROW e vs ht hs (by rw [hW]; exact hnew) (by simp only [Nat.min_def]; split <;> omega) (by rw [hvl]) (fun j v hj => ?_) (by rw [hvl, hRs]; omega) h1v
    rw [own_addr_add, Nat.zero_add, cell_of_heap hW, World.cell?_of_block (w := w) (hold2 _ hvb)]
    exact hvs j v hj
  · rw [show (i + 1) * 6 = i * 6 + 6 by omega]
    refine run_copy_rowN W t t ty e 6 w.heap.size (i * 6 + 6) (n - i) dc ⟨g, i * 6, none⟩ (n - i) sc (n - i) _ e (xs.drop (i * 6)) ht hs (by rw [hW]; exact setRow_get hnew) (by simp only [Nat.min_def]; split <;> omega) (by rw [hdl, Nat.sub_mul]) (fun j v hj => ?_) ?_ (fun v hv => h1c v (List.mem_of_mem_drop hv))
    · rw [own_addr_add, cell_of_heap hW, World.cell?_of_block (w := w.alloc (.cells ROW e)) (setRow_far hgn), World.cell?_of_block (w := w) (hold2 _ hgl)]
      rw [List.getElem?_drop] at hj
      exact hxc _ v hj
    · rw [List.size_toArray, hdl]
      simp only [List.length_append, List.length_take, List.length_drop, hvl]
      omega
  · refine ⟨⟨?_, .inr ⟨w.heap.size, G, _, rfl, hNw, setRow_get (by rw [hW]; exact setRow_get hnew), hGn, hGm, ?_, ?_⟩⟩, h1, h2, h3, ?_, fun k hk hne => ?_⟩
    · rw [spl_len (by rw [hxl]; omega), hxl, hvl]; omega
    · rw [List.size_toArray, List.toList_toArray, hsp.2, hRl]
    · rw [List.toList_toArray, List.toList_toArray, show (n + 1) * 6 = n * 6 + 6 by omega]
      exact hsp.1
    · show w.heap.size ≤ (W.setRow _ _).heap.size
      rw [setRow_size, hW, setRow_size]
      simp
    · have hkg : k ≠ w.heap.size := by omega
      rw [setRow_far hkg, hW, setRow_far hkg, hold2 k hk]
end Go.Proofs.YteknhnnlhhgppaaDoor

/-
  Contract: slices.Insert of one instruction into a row of the call's own (layer 19).
-/
namespace Go.Proofs.YteknhnnlhhgppaaDoor
set_option linter.unusedVariables false
set_option linter.unusedSimpArgs false
open Go.RowKit
set_option maxRecDepth 100000
set_option maxHeartbeats 8000000

theorem Tryd.infoInsI : (Tryd.prog.info? 54).map (fun i => (i.zero, i.size, i.bytes)) = some (some (.agg #[.int .u8 0, .int .i64 0, .int .i64 0, .int .i64 0, .int .i64 0, .string ⟨#[]⟩]), 6, 56) := by kernel_rfl
theorem own_new {gx M n c : Nat} (h : (Value.slice (some ⟨gx, 0, none⟩) n c).ownBlock = some M) : gx = M := by injection h
theorem insert_any (N : Nat) (a : Option Addr) (n c i vb : Nat) (code : List Ins) (q : Ins) (TV : TypeId) (w : World) (hown : w.ownsRow N 54 6 (.slice a n c) n (codeCells code)) (hN : N ≤ w.heap.size) (hn : n ≤ 1000) (hi : i ≤ n)
    (hq : w.heap[vb]? = some (.cells #[.int .u8 q.op, .int .i64 q.dst, .int .i64 q.x, .int .i64 q.y, .int .i64 q.imm, .string q.sym] TV)) (hne : (Value.slice a n c).ownBlock ≠ some vb) :
    Calls Tryd.prog 35 #[.slice a n c, .int .i64 (i : Int), .slice (some ⟨vb, 0, none⟩) 1 1] w fun e w' =>
      ∃ gx cap, e = .returned (.slice (some ⟨gx, 0, none⟩) (n + 1) cap) ∧ w'.ownsRow N 54 6 (.slice (some ⟨gx, 0, none⟩) (n + 1) cap) (n + 1) (codeCells (code.take i ++ [q] ++ code.drop i)) ∧ w.grownBy w' (Value.slice a n c).ownBlock ∧ ((Value.slice a n c).ownBlock = some gx ∨ w.heap.size ≤ gx) := by
  have hcl : code.length = n := by have := hown.1; rw [codeCells_len] at this; omega
  have hvs : ∀ j v, q.cells[j]? = some v → w.cell? ⟨vb, j, none⟩ = some v := fun j v hj => by
    rw [mem_cell hq]
    simpa [Ins.cells] using hj
  have hvbl : vb < w.heap.size := (Array.getElem?_eq_some_iff.1 hq).1
  have hvl : q.cells.length = 6 := rfl
  have hspl : Hid (spl (codeCells code) (i * 6) q.cells = codeCells (code.take i ++ [q] ++ code.drop i)) := by
    show _ = _
    have := code_spl code [q] i
    rw [show codeCells [q] = q.cells by unfold codeCells; simp] at this
    exact this
  obtain ⟨j0, hj, jz0, jz1, jz2⟩ := info_parts Tryd.infoInsI
  have hsz : (Tryd.prog.info? 54).map (·.size) = some 6 := by rw [hj]; simp [jz1]
  have hi0 : (0 : Int) ≤ (i : Int) := by omega
  have hin : (i : Int) ≤ (n : Int) := by omega
  by_cases he : i = n
  · subst he
    have hcode : spl (codeCells code) (i * 6) q.cells = codeCells code ++ q.cells := by
      have := spl_end (xs := codeCells code) (vs := q.cells)
      rwa [codeCells_len, hcl] at this
    have hsrc : Src w (some ⟨vb, 0, none⟩) 1 6 q.cells := ⟨rfl, .inr ⟨_, rfl, fun j u hu => by rw [own_addr_add, Nat.zero_add]; exact hvs j u hu⟩⟩
    have HOWN := Lib.hid hown
    have HS := Lib.hid hsrc
    have HCODE := Lib.hid hcode
    have HFORM := Lib.hid (ownsRow_form hown)
    clear hvs hsrc hcode hq hne
    rcases HFORM.out with ⟨e1, h0⟩ | ⟨b, cap, e1, h1, h2, h3⟩
    · injection e1 with e1 _ e3
      subst e1 e3 h0
      go_enter Tryd.func35, Tryd.ntmps35
      go_wp2_with (at_builtin; refine wpList_append_src _ rfl (.tmp 23) (.tmp 24) 41 rfl N 54 j0 _ 6 56 Tryd.underlying41 hj jz0 jz1 jz2 rfl (by decide) (.slice none 0 0) 0 (codeCells code) rfl HOWN.out (some ⟨vb, 0, none⟩) 1 1 q.cells rfl HS.out q.one (by unfold maxLen; omega) (by omega) hN ?_)
      all_goals
        intro v' w' r1 r2 r3
        rcases ownsRow_form r1 with ⟨_, h9⟩ | ⟨gx, cap9, rfl, _, _, _⟩
        · omega
        have HR1 := Lib.hid r1
        have HR2 := Lib.hid r2
        have HR3 := Lib.hid r3
        clear r1 r2 r3
        go_wp2_with fail
        go_ret
        have h8 := HR1.out
        rw [← HCODE.out, hspl.out] at h8
        exact ⟨gx, cap9, rfl, h8, HR2.out, HR3.out.elim (fun e => .inl e.symm) (fun e => .inr (Nat.le_of_eq (own_new e).symm))⟩
    · injection e1 with e1 _ e3
      subst e1 e3
      go_enter Tryd.func35, Tryd.ntmps35
      go_wp2_with (at_builtin; refine wpList_append_src _ rfl (.tmp 23) (.tmp 24) 41 rfl N 54 j0 _ 6 56 Tryd.underlying41 hj jz0 jz1 jz2 rfl (by decide) (.slice (some ⟨b, 0, none⟩) i c) i (codeCells code) rfl HOWN.out (some ⟨vb, 0, none⟩) 1 1 q.cells rfl HS.out q.one (by unfold maxLen; omega) (by omega) hN ?_)
      all_goals
        intro v' w' r1 r2 r3
        rcases ownsRow_form r1 with ⟨_, h9⟩ | ⟨gx, cap9, rfl, _, _, _⟩
        · omega
        have HR1 := Lib.hid r1
        have HR2 := Lib.hid r2
        have HR3 := Lib.hid r3
        clear r1 r2 r3
        go_wp2_with fail
        go_ret
        have h8 := HR1.out
        rw [← HCODE.out, hspl.out] at h8
        exact ⟨gx, cap9, rfl, h8, HR2.out, HR3.out.elim (fun e => .inl e.symm) (fun e => .inr (Nat.le_of_eq (own_new e).symm))⟩
  · obtain ⟨b, rfl, hNb, hbw, hnc⟩ := own_some hown (by omega)
    have hin2 : i < n := by omega
    have hvb : vb ≠ b := fun e => hne (by rw [e]; rfl)
    have hil : ¬ ((i : Int) = (n : Int)) := by omega
    have hw1 : IntKind.i64.wrap ((i : Int) + 1) = (i : Int) + 1 := by rw [IntKind.wrap_i64]; omega
    have hw2 : IntKind.i64.wrap ((n : Int) + 1) = (n : Int) + 1 := by rw [IntKind.wrap_i64]; omega
    have hb1 : (0 : Int) ≤ (i : Int) + 1 := by omega
    have htn : ((i : Int) + 1).toNat = i + 1 := by omega
    by_cases hroom : n + 1 ≤ c
    · obtain ⟨R1, R2, hc1, hc2, hfin⟩ := ins_shift (P := Tryd.prog) w N 41 54 Tryd.underlying41 hsz b n c i vb (codeCells code) q.cells hown hin2 hroom hvb hvl hvs (codeCells_one code) q.one
      have HFIN := Lib.hid hfin
      have HC1 := Lib.hid hc1
      have HC2 := Lib.hid hc2
      obtain ⟨tB, hshB⟩ : ∃ t, w.shape? b = some (t, c * 6) := by
        rcases hown.2 with ⟨e1, _⟩ | ⟨g9, c9, cur, e1, _, hg, _, _, hcs, _⟩
        · cases e1
        · cases e1
          exact ⟨54, by unfold World.shape?; rw [hg]; simp [hcs]⟩
      have hshV : w.shape? vb = some (TV, 6) := by unfold World.shape?; rw [hq]; rfl
      have hfV : ∀ o, w.frozen? ⟨vb, o, none⟩ = false := fun o => by unfold World.frozen?; simp [hq]
      have hov : ∀ lb cb, (callFunc 65 #[.slice (some ⟨vb, 0, none⟩) 1 1, .slice (some ⟨b, (i + 1) * 6, none⟩) lb cb]).run Tryd.prog w = .ok (.value (.bool false)) w := fun lb cb => by
        rw [run_callFunc_extern Tryd.func65 (by kernel_rfl) (by kernel_rfl) (by kernel_rfl) (e := Extern.SlicesOverlaps.overlaps #[41, 41] #[4]) (by kernel_rfl),
          Lib.run_overlaps_apart w 41 4 54 Tryd.underlying41 6 (fun w => by kernel_rfl) ⟨vb, 0, none⟩ ⟨b, (i + 1) * 6, none⟩ 1 1 lb cb hvb TV tB 6 (c * 6) hshV hshB (by omega) (hfV _) (hfV _)]
        rfl
      have hci1 : ¬ (c = i + 1) := by omega
      have hci2 : ¬ (c = i) := by omega
      have hb3 : (i : Int) ≤ (n : Int) + 1 := by omega
      have hb4 : (i : Int) + 1 ≤ (n : Int) + 1 := by omega
      have hnn : n + 1 - (i + 1) = n - i := by omega
      clear hc1 hc2 hfin hown hq hvs
      go_enter Tryd.func35, Tryd.ntmps35
      go_wp2_with (simp only [hov])
      clear hov
      have hcr := HC1.out w.drew rfl 3 (c - (i + 1)) (c - i)
      go_region
      clear hcr
      have hcr2 := HC2.out (w.drew.setRow b R1) rfl 3 (c - i) 1
      go_wp2_with (simp only [hcr2])
      clear hcr2
      go_ret
      obtain ⟨h1, h2⟩ := HFIN.out (w.drew.setRow b R1) rfl rfl rfl rfl
      rw [hspl.out] at h1
      exact ⟨b, c, rfl, h1, h2, .inl rfl⟩
    · have hroom2 : c < n + 1 := by omega
      obtain ⟨G, ROW, RA, RB, hG1, hG2, hap, hcA, hcB, hfin⟩ := ins_grow (P := Tryd.prog) w N 41 3 54 j0 _ Tryd.underlying41 Tryd.underlying3 hj jz0 rfl jz1 jz2 b n c i vb (codeCells code) q.cells hown hN hin2 hroom2 (by omega) hvbl hvl hvs (codeCells_one code) q.one
      have HFIN := Lib.hid hfin
      have HCA := Lib.hid hcA
      have HCB := Lib.hid hcB
      have hw3 : IntKind.i64.wrap ((n : Int) + 1 - (i : Int)) = (n : Int) + 1 - (i : Int) := by rw [IntKind.wrap_i64]; omega
      have hgi : ¬ (G = i) := by omega
      have hgi1 : ¬ (G = i + 1) := by omega
      have hci2 : ¬ (c = i) := by omega
      have hb3 : (i : Int) ≤ (n : Int) + 1 := by omega
      have hb4 : (i : Int) + 1 ≤ (n : Int) + 1 := by omega
      have hb5 : (c : Int) < (n : Int) + 1 := by omega
      have hb6 : i ≤ n := by omega
      have hnn : n + 1 - (i + 1) = n - i := by omega
      have hcr1 := HCA.out (w.drew.alloc (.cells ROW 54)) rfl 3 (G - i) 1
      have hcr2 := HCA.out ((w.alloc (.cells ROW 54)).drew) rfl 3 (G - i) 1
      clear hcA hcB hfin hown hq hvs
      go_enter Tryd.func35, Tryd.ntmps35
      go_wp2_with (first
        | (at_builtin; refine Lib.wpList_append_run _ rfl _ _ _ _ rfl _ _ rfl rfl _ _ (hap _) ?_)
        | (simp only [hcr1])
        | (simp only [hcr2]))
      clear hcr1 hcr2 hap
      have hcr := HCB.out ((w.alloc (.cells ROW 54)).drew.setRow w.heap.size RA).drew rfl 3 (G - (i + 1)) (c - i)
      go_region
      clear hcr
      go_wp2_with fail
      go_ret
      obtain ⟨h1, h2⟩ := HFIN.out ((w.alloc (.cells ROW 54)).drew.setRow w.heap.size RA).drew rfl rfl rfl rfl
      rw [hspl.out] at h1
      exact ⟨w.heap.size, G, rfl, h1, h2, .inr (Nat.le_refl _)⟩
end Go.Proofs.YteknhnnlhhgppaaDoor
