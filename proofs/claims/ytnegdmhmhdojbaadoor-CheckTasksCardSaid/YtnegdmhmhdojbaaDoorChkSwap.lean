/-
  Contract: swap (package ontimelaw15): a program with one task replaced.
-/
import Derived.Test.YtnegdmhmhdojbaaDoorChkRow
namespace Go.Proofs.YtnegdmhmhdojbaaDoor
set_option linter.unusedVariables false
set_option linter.unusedSimpArgs false
open Go.RowKit
set_option maxRecDepth 100000
set_option maxHeartbeats 8000000

/-- the cells of a row that came in, as a list -/
theorem src_cells {w : World} {b off m size : Nat} (h : ∀ j, j < m * size → ∃ u, w.cell? ⟨b, off + j, none⟩ = some u ∧ u.oneCell' = true) :
    ∃ news : List Value, Src w (some ⟨b, off, none⟩) m size news ∧ (∀ j, j < m * size → w.cell? ⟨b, off + j, none⟩ = news[j]?) ∧ ∀ u ∈ news, u.oneCell' = true := by
  have add : ∀ j, (⟨b, off, none⟩ : Addr).add j = ⟨b, off + j, none⟩ := fun j => by
    unfold Addr.add
    by_cases h0 : j = 0 <;> simp [h0]
  have hm : ∀ j, ∃ u : Value, j < m * size → w.cell? ⟨b, off + j, none⟩ = some u ∧ u.oneCell' = true := fun j => by
    by_cases hj : j < m * size
    · obtain ⟨u, hu⟩ := h j hj
      exact ⟨u, fun _ => hu⟩
    · exact ⟨.bool false, fun h => absurd h hj⟩
  obtain ⟨f, hf⟩ := Classical.axiomOfChoice hm
  refine ⟨(List.range (m * size)).map f, ⟨by simp, .inr ⟨_, rfl, fun j u hu => ?_⟩⟩, fun j hj => ?_, fun u hu => ?_⟩
  · rw [List.getElem?_map] at hu
    obtain ⟨k, hk, rfl⟩ := Option.map_eq_some_iff.1 hu
    obtain ⟨hj, rfl⟩ := List.getElem?_eq_some_iff.1 hk
    have hj' : j < m * size := by simpa using hj
    rw [add]
    simp only [List.getElem_range]
    exact (hf j hj').1
  · rw [(hf j hj).1]
    simp [hj]
  · obtain ⟨k, hk, rfl⟩ := List.mem_map.1 hu
    exact (hf k (by simpa using hk)).2
theorem tsk_ones {t : Tsk} {p : TskPlace} {o : Nat} {u : Value} (h : (t.cells p)[o]? = some u) : u.oneCell' = true := by
  unfold Tsk.cells at h
  match o, h with
  | 0, h => cases h; rfl
  | 1, h => cases h; rfl
  | 2, h => cases h; rfl
  | 3, h => cases h; rfl
  | 4, h => cases h; rfl
  | 5, h => cases h; rfl
  | 6, h => cases h; rfl
  | 7, h => cases h; rfl
theorem TsksAt.src {w : World} {b off : Nat} {l : List Tsk} (h : TsksAt w (some ⟨b, off, none⟩) l) :
    ∃ news : List Value, Src w (some ⟨b, off, none⟩) l.length 8 news ∧ (∀ j, j < l.length * 8 → w.cell? ⟨b, off + j, none⟩ = news[j]?) ∧ ∀ u ∈ news, u.oneCell' = true :=
  src_cells fun j hj => by
    obtain ⟨b', off', p, ha, hc, _⟩ := h.2 (j / 8) (by omega)
    cases ha
    have := hc (j % 8) (by omega)
    rw [show off + j / 8 * 8 + j % 8 = off + j by omega] at this
    have hs : j % 8 < ((l.getD (j / 8) Tsk.none).cells p).size := by show j % 8 < 8; omega
    rw [Array.getElem?_eq_getElem hs] at this
    exact ⟨_, this, tsk_ones (Array.getElem?_eq_getElem hs)⟩
/-- eight cells of a row set -/
theorem row_set8 {w : World} {base : Nat} {e : TypeId} {g n cap i : Nat} {xs : List Value} {x0 x1 x2 x3 x4 x5 x6 x7 : Value} (h : w.ownsRow base e 8 (.slice (some ⟨g, 0, none⟩) n cap) n xs) (hi : i < n) :
    ((((((((w.setCell ⟨g, i * 8, none⟩ x0).setCell ⟨g, i * 8 + 1, none⟩ x1).setCell ⟨g, i * 8 + 2, none⟩ x2).setCell ⟨g, i * 8 + 3, none⟩ x3).setCell ⟨g, i * 8 + 4, none⟩ x4).setCell ⟨g, i * 8 + 5, none⟩ x5).setCell ⟨g, i * 8 + 6, none⟩ x6).setCell ⟨g, i * 8 + 7, none⟩ x7).ownsRow base e 8 (.slice (some ⟨g, 0, none⟩) n cap) n
      ((((((((xs.set (i * 8) x0).set (i * 8 + 1) x1).set (i * 8 + 2) x2).set (i * 8 + 3) x3).set (i * 8 + 4) x4).set (i * 8 + 5) x5).set (i * 8 + 6) x6).set (i * 8 + 7) x7) :=
  ownsRow_set (ownsRow_set (ownsRow_set (ownsRow_set (ownsRow_set (ownsRow_set (ownsRow_set (ownsRow_set h (by omega)) (by omega)) (by omega)) (by omega)) (by omega)) (by omega)) (by omega)) (by omega)
theorem set8_get {n i k o : Nat} {xs : List Value} {x0 x1 x2 x3 x4 x5 x6 x7 : Value} (hx : xs.length = n * 8) (hi : i < n) (ho : o < 8) :
    ((((((((xs.set (i * 8) x0).set (i * 8 + 1) x1).set (i * 8 + 2) x2).set (i * 8 + 3) x3).set (i * 8 + 4) x4).set (i * 8 + 5) x5).set (i * 8 + 6) x6).set (i * 8 + 7) x7)[k * 8 + o]? =
      if k = i then (#[x0, x1, x2, x3, x4, x5, x6, x7] : Array Value)[o]? else xs[k * 8 + o]? := by
  by_cases hk : k = i
  · subst hk
    rw [if_pos rfl]
    match o, ho with
    | 0, _ => simp [List.getElem?_set, hx]; omega
    | 1, _ => simp [List.getElem?_set, hx]; omega
    | 2, _ => simp [List.getElem?_set, hx]; omega
    | 3, _ => simp [List.getElem?_set, hx]; omega
    | 4, _ => simp [List.getElem?_set, hx]; omega
    | 5, _ => simp [List.getElem?_set, hx]; omega
    | 6, _ => simp [List.getElem?_set, hx]; omega
    | 7, _ => simp [List.getElem?_set, hx]; omega
  · rw [if_neg hk]
    simp only [List.getElem?_set]
    repeat rw [if_neg (by omega)]
theorem tsk_info : (Tryd.prog.info? 45).map (fun i => (i.zero, i.size, i.bytes)) = some (some (.agg #[.string ⟨#[]⟩, .int .i64 0, .slice none 0 0, .slice none 0 0, .int .u8 0, .int .i64 0, .string ⟨#[]⟩, .slice none 0 0]), 8, 128) := by kernel_rfl
/-- the program with a task replaced -/
def swapP (p : Prg) (i : Nat) (t : Tsk) : Prg := ⟨p.shared, p.tasks.set i t⟩
theorem swap_any (p : Prg) (i : Nat) (t : Tsk) (q : TskPlace) (w : World) (sa ta : Option Addr) (sc tc : Nat) (hp : PrgAt w p sa ta) (ht : TskIn w t q) (hi : i < p.tasks.length) (hl : p.tasks.length ≤ 1000) :
    Calls Tryd.prog 22 #[p.val sa sc ta tc, .int .i64 (i : Int), .agg (t.cells q)] w fun e w' => ∃ ta' tc', e = .returned ((swapP p i t).val sa sc ta' tc') ∧ PrgAt w' (swapP p i t) sa ta' ∧ Below w.heap.size w w' := by
  obtain ⟨ti, hti, hz0, hz1, hz2⟩ := info_parts tsk_info
  have HP := Lib.hid hp
  have HT := Lib.hid ht
  have hsl := hp.1.1
  have htl := hp.2.1
  have hi0 : (0 : Int) ≤ (i : Int) := by omega
  have hi2 : (i : Int) < (p.tasks.length : Int) := by omega
  obtain ⟨b, off, q0, rfl, _, _⟩ := hp.2.2 i hi
  obtain ⟨A1, h1⟩ : ∃ A1 : World, w.alloc (prgObj p sa sc (some ⟨b, off, none⟩) tc) = A1 := ⟨_, rfl⟩
  obtain ⟨A2, h2⟩ : ∃ A2 : World, A1.alloc (tskObj t q) = A2 := ⟨_, rfl⟩
  obtain ⟨A3, h3⟩ : ∃ A3 : World, A2.alloc (.cells #[.slice none 0 0, .slice none 0 0] 25) = A3 := ⟨_, rfl⟩
  obtain ⟨A4, h4⟩ : ∃ A4 : World, A3.alloc (.cells #[] 45) = A4 := ⟨_, rfl⟩
  have b1 : Below w.heap.size w A1 := by rw [← h1]; exact mem_alloc _ _
  have b2 : Below A1.heap.size A1 A2 := by rw [← h2]; exact mem_alloc _ _
  have b3 : Below A2.heap.size A2 A3 := by rw [← h3]; exact mem_alloc _ _
  have b4 : Below A3.heap.size A3 A4 := by rw [← h4]; exact mem_alloc _ _
  have HB4 : Hid (Below w.heap.size w A4) := mem_then (mem_then (mem_then b1 b2) b3) b4
  have HLT : Hid (w.heap.size < A1.heap.size ∧ A1.heap.size < A2.heap.size ∧ A2.heap.size < A3.heap.size ∧ A3.heap.size < A4.heap.size) := by
    refine ⟨?_, ?_, ?_, ?_⟩
    · rw [← h1]; simp
    · rw [← h2]; simp
    · rw [← h3]; simp
    · rw [← h4]; simp
  have HM1 : Hid (A4.heap[w.heap.size]? = some (prgObj p sa sc (some ⟨b, off, none⟩) tc)) := mem_keep (by rw [← h1]; exact mem_new _ _) (mem_then (mem_then b2 b3) b4)
  have HM2 : Hid (A4.heap[A1.heap.size]? = some (tskObj t q)) := mem_keep (by rw [← h2]; exact mem_new _ _) (mem_then b3 b4)
  have HM3 : Hid (A4.heap[A2.heap.size]? = some (.cells #[.slice none 0 0, .slice none 0 0] 25)) := mem_keep (by rw [← h3]; exact mem_new _ _) b4
  have HM4 : Hid (A4.heap[A3.heap.size]? = some (.cells #[] 45)) := by show _ = _; rw [← h4]; exact mem_new _ _
  have HOWN : Hid (A4.ownsRow w.heap.size 45 8 (.slice (some ⟨A3.heap.size, 0, none⟩) 0 0) 0 []) := ⟨rfl, .inr ⟨A3.heap.size, 0, #[], rfl, by have := HLT.out; omega, HM4.out, by omega, by unfold maxLen; omega, rfl, rfl⟩⟩
  obtain ⟨news, hsrc, hnews, hones⟩ := (hp.2.below HB4.out).src
  have HSRC := Lib.hid hsrc
  have HNEWS := Lib.hid hnews
  have HONES := Lib.hid hones
  have y1 : A4.cell? ⟨w.heap.size, 1, none⟩ = some (.slice (some ⟨b, off, none⟩) p.tasks.length tc) := mem_cell HM1.out 1
  unfold Tsk.cells
  clear hp ht b1 b2 b3 b4 hsrc hnews hones
  go_enter Tryd.func22, Tryd.ntmps22
  go_wp2_with (at_builtin; refine wpList_append_src _ rfl (.tmp 7) (.tmp 9) 23 rfl w.heap.size 45 ti _ 8 128 Tryd.underlying23 hti hz0 hz1 hz2 rfl (by decide) (.slice (some ⟨A3.heap.size, 0, none⟩) 0 0) 0 [] rfl HOWN.out (some ⟨b, off, none⟩) p.tasks.length tc news rfl HSRC.out HONES.out (by unfold maxLen; omega) (by omega) (by have := HLT.out; omega) ?_)
  intro v5 w5 hown5 hg5 hpl5
  rcases ownsRow_form hown5 with ⟨_, h0⟩ | ⟨gb, cap, rfl, hgb, hgl, hcap⟩
  · omega
  have HGB : Hid (gb = A3.heap.size ∨ gb = A4.heap.size) := by
    rcases hpl5 with h | h
    · exact .inl (Option.some.inj h)
    · exact .inr (Option.some.inj h)
  have keep5 : ∀ {k : Nat} {o : Obj}, A4.heap[k]? = some o → k ≠ A3.heap.size → w5.heap[k]? = some o := fun {k o} hk hn => (hg5.block k (mem_lt hk) (fun e => hn (Option.some.inj e))).trans hk
  have m1 := keep5 HM1.out (by have := HLT.out; omega)
  have m2 := keep5 HM2.out (by have := HLT.out; omega)
  have m3 := keep5 HM3.out (by have := HLT.out; omega)
  have HB5 : Hid (Below w.heap.size w w5) := HB4.out.grown hg5 (by have := HLT.out; omega) (fun k hk => by have h9 := HLT.out; have hk : A3.heap.size = k := Option.some.inj hk; omega)
  have z1 := mem_free m1 1
  have y1 : w5.cell? ⟨w.heap.size, 1, none⟩ = some (.slice (some ⟨b, off, none⟩) p.tasks.length tc) := mem_cell m1 1
  obtain ⟨w6, h6⟩ : ∃ w6 : World, w5.setCell ⟨w.heap.size, 1, none⟩ (.slice (some ⟨gb, 0, none⟩) p.tasks.length cap) = w6 := ⟨_, rfl⟩
  have HM16 : Hid (w6.heap[w.heap.size]? = some (.cells #[.slice sa p.shared.length sc, .slice (some ⟨gb, 0, none⟩) p.tasks.length cap] 25)) := by show _ = _; rw [← h6, mem_set m1]; rfl
  have m26 : w6.heap[A1.heap.size]? = some (tskObj t q) := by rw [← h6, Below.heap_setCell _ _ _ _ (by show A1.heap.size ≠ w.heap.size; have := HLT.out; omega)]; exact m2
  have HM36 : Hid (w6.heap[A2.heap.size]? = some (.cells #[.slice none 0 0, .slice none 0 0] 25)) := by show _ = _; rw [← h6, Below.heap_setCell _ _ _ _ (by show A2.heap.size ≠ w.heap.size; have := HLT.out; omega)]; exact m3
  have HOWN6 : Hid (w6.ownsRow w.heap.size 45 8 (.slice (some ⟨gb, 0, none⟩) p.tasks.length cap) p.tasks.length news) := by
    show World.ownsRow _ _ _ _ _ _ _
    rw [← h6]
    exact own_keep hown5 (fun k hk _ => Below.heap_setCell _ _ _ _ (by have hk : gb = k := Option.some.inj hk; have h8 := HLT.out; have h9 := HGB.out; show k ≠ w.heap.size; omega))
  have HB6 : Hid (Below w.heap.size w w6) := by show Below _ _ _; rw [← h6]; exact HB5.out.setCell (Nat.le_refl _) _
  have hlen : news.length = p.tasks.length * 8 := hown5.1
  have get6 : ∀ k, k < p.tasks.length * 8 → ∃ u, w6.cell? ⟨gb, k, none⟩ = some u ∧ w6.frozen? ⟨gb, k, none⟩ = false := fun k hk => by
    refine ⟨_, own_get HOWN6.out (List.getElem?_eq_getElem (by rw [hlen]; exact hk)), ?_⟩
    rcases HOWN6.out.2 with ⟨_, h0⟩ | ⟨g', cap', cur, hv, _, hc, _⟩
    · omega
    · cases hv
      exact mem_free hc k
  obtain ⟨u0, e0, f0⟩ := get6 (i * 8) (by omega)
  obtain ⟨u1, e1, f1⟩ := get6 (i * 8 + 1) (by omega)
  obtain ⟨u2, e2, f2⟩ := get6 (i * 8 + 2) (by omega)
  obtain ⟨u3, e3, f3⟩ := get6 (i * 8 + 3) (by omega)
  obtain ⟨u4, e4, f4⟩ := get6 (i * 8 + 4) (by omega)
  obtain ⟨u5, e5, f5⟩ := get6 (i * 8 + 5) (by omega)
  obtain ⟨u6, e6, f6⟩ := get6 (i * 8 + 6) (by omega)
  obtain ⟨u7, e7, f7⟩ := get6 (i * 8 + 7) (by omega)
  have HLEN := Lib.hid hlen
  have y6 : w6.cell? ⟨w.heap.size, 1, none⟩ = some (.slice (some ⟨gb, 0, none⟩) p.tasks.length cap) := mem_cell HM16.out 1
  have x0 := mem_cell m26 0
  have x1 := mem_cell m26 1
  have x2 := mem_cell m26 2
  have x3 := mem_cell m26 3
  have x4 := mem_cell m26 4
  have x5 := mem_cell m26 5
  have x6 := mem_cell m26 6
  have x7 := mem_cell m26 7
  simp only [List.getElem?_toArray, List.getElem?_cons_zero, List.getElem?_cons_succ] at x0 x1 x2 x3 x4 x5 x6 x7
  obtain ⟨w7, h7⟩ : ∃ w7 : World, (((((((w6.setCell ⟨gb, i * 8, none⟩ (.string t.name)).setCell ⟨gb, i * 8 + 1, none⟩ (.int .i64 t.period)).setCell ⟨gb, i * 8 + 2, none⟩ (.slice q.va t.vars.length q.vc)).setCell ⟨gb, i * 8 + 3, none⟩ (.slice q.aa t.arrays.length q.ac)).setCell ⟨gb, i * 8 + 4, none⟩ (.int .u8 t.body.kind)).setCell ⟨gb, i * 8 + 5, none⟩ (.int .i64 t.body.num)).setCell ⟨gb, i * 8 + 6, none⟩ (.string t.body.name)).setCell ⟨gb, i * 8 + 7, none⟩ (.slice q.ka t.body.len q.kc) = w7 := ⟨_, rfl⟩
  have hne1 : w.heap.size ≠ gb := by have := HLT.out; have := HGB.out; omega
  have hne2 : A2.heap.size ≠ gb := by have := HLT.out; have := HGB.out; omega
  have m17 : w7.heap[w.heap.size]? = some (.cells #[.slice sa p.shared.length sc, .slice (some ⟨gb, 0, none⟩) p.tasks.length cap] 25) := by
    rw [← h7]
    iterate 8 rw [Below.heap_setCell _ _ _ _ hne1]
    exact HM16.out
  have m37 : w7.heap[A2.heap.size]? = some (.cells #[.slice none 0 0, .slice none 0 0] 25) := by
    rw [← h7]
    iterate 8 rw [Below.heap_setCell _ _ _ _ hne2]
    exact HM36.out
  have HOWN7 := Lib.hid (row_set8 (x0 := .string t.name) (x1 := .int .i64 t.period) (x2 := .slice q.va t.vars.length q.vc) (x3 := .slice q.aa t.arrays.length q.ac) (x4 := .int .u8 t.body.kind) (x5 := .int .i64 t.body.num) (x6 := .string t.body.name) (x7 := .slice q.ka t.body.len q.kc) HOWN6.out hi)
  have HB7 : Hid (Below w.heap.size w w7) := by
    show Below _ _ _
    rw [← h7]
    have hgb' : w.heap.size ≤ gb := hgb
    exact (((((((HB6.out.setCell (p := ⟨gb, _, none⟩) hgb' _).setCell (p := ⟨gb, _, none⟩) hgb' _).setCell (p := ⟨gb, _, none⟩) hgb' _).setCell (p := ⟨gb, _, none⟩) hgb' _).setCell (p := ⟨gb, _, none⟩) hgb' _).setCell (p := ⟨gb, _, none⟩) hgb' _).setCell (p := ⟨gb, _, none⟩) hgb' _).setCell (p := ⟨gb, _, none⟩) hgb' _
  rw [h7] at HOWN7
  have k0 := mem_cell m17 0
  have k1 := mem_cell m17 1
  have r0 := mem_cell m37 0
  have r1 := mem_cell m37 1
  have s0 := mem_free m37 0
  have s1 := mem_free m37 1
  simp only [List.getElem?_toArray, List.getElem?_cons_zero, List.getElem?_cons_succ] at k0 k1 r0 r1
  clear m1 m2 m3 m26 m17 m37 hown5 hg5 hpl5 keep5 get6 hlen h1 h2 h3 h4
  go_wp2_with fail
  refine bodyPost_ret (v := .agg #[.slice sa p.shared.length sc, .slice (some ⟨gb, 0, none⟩) p.tasks.length cap]) (by simp [results, Tryd.results22, go_sem, r0, r1]) rfl ?_
  have HB8 : Hid (Below w.heap.size w ((w7.setCell ⟨A2.heap.size, 0, none⟩ (.slice sa p.shared.length sc)).setCell ⟨A2.heap.size, 1, none⟩ (.slice (some ⟨gb, 0, none⟩) p.tasks.length cap))) := by
    have hA2 : w.heap.size ≤ A2.heap.size := by have := HLT.out; omega
    exact (HB7.out.setCell (p := ⟨A2.heap.size, 0, none⟩) hA2 _).setCell (p := ⟨A2.heap.size, 1, none⟩) hA2 _
  have HOWN8 := own_keep (w' := (w7.setCell ⟨A2.heap.size, 0, none⟩ (.slice sa p.shared.length sc)).setCell ⟨A2.heap.size, 1, none⟩ (.slice (some ⟨gb, 0, none⟩) p.tasks.length cap)) HOWN7.out (fun k hk _ => by
    have hk : gb = k := Option.some.inj hk
    subst hk
    rw [Below.heap_setCell _ _ _ _ (fun e => hne2 e.symm), Below.heap_setCell _ _ _ _ (fun e => hne2 e.symm)])
  obtain ⟨w8, hw8⟩ : ∃ w8 : World, (w7.setCell ⟨A2.heap.size, 0, none⟩ (.slice sa p.shared.length sc)).setCell ⟨A2.heap.size, 1, none⟩ (.slice (some ⟨gb, 0, none⟩) p.tasks.length cap) = w8 := ⟨_, rfl⟩
  rw [hw8] at HB8 HOWN8 ⊢
  have hcell : ∀ k o, k < p.tasks.length → o < 8 → w8.cell? ⟨gb, 0 + k * 8 + o, none⟩ = if k = i then (t.cells q)[o]? else w.cell? ⟨b, off + k * 8 + o, none⟩ := fun k o hk ho => by
    have h1 := set8_get (k := k) (x0 := .string t.name) (x1 := .int .i64 t.period) (x2 := .slice q.va t.vars.length q.vc) (x3 := .slice q.aa t.arrays.length q.ac) (x4 := .int .u8 t.body.kind) (x5 := .int .i64 t.body.num) (x6 := .string t.body.name) (x7 := .slice q.ka t.body.len q.kc) HLEN.out hi ho
    have h2 : (((((((((news.set (i * 8) (.string t.name)).set (i * 8 + 1) (.int .i64 t.period)).set (i * 8 + 2) (.slice q.va t.vars.length q.vc)).set (i * 8 + 3) (.slice q.aa t.arrays.length q.ac)).set (i * 8 + 4) (.int .u8 t.body.kind)).set (i * 8 + 5) (.int .i64 t.body.num)).set (i * 8 + 6) (.string t.body.name)).set (i * 8 + 7) (.slice q.ka t.body.len q.kc)))[k * 8 + o]? = w8.cell? ⟨gb, k * 8 + o, none⟩ := by
      rw [List.getElem?_eq_getElem (by simp only [List.length_set]; rw [HLEN.out]; omega)]
      exact (own_get HOWN8 (List.getElem?_eq_getElem _)).symm
    rw [Nat.zero_add, ← h2, h1]
    by_cases e : k = i
    · rw [if_pos e, if_pos e]
      rfl
    · rw [if_neg e, if_neg e, ← HNEWS.out (k * 8 + o) (by omega), Nat.add_assoc]
      obtain ⟨b2, off2, p2, ha2, hc2, _⟩ := HP.out.2.2 k hk
      cases ha2
      have hs : o < ((p.tasks.getD k Tsk.none).cells p2).size := ho
      have hc3 := hc2 o ho
      rw [Array.getElem?_eq_getElem hs, Nat.add_assoc] at hc3
      rw [cell_below HB4.out hc3, hc3]
  refine ⟨some ⟨gb, 0, none⟩, cap, ?_, ⟨HP.out.1.below HB8.out, ⟨by show (p.tasks.set i t).length ≤ _; rw [List.length_set]; exact htl, fun k hk => ?_⟩⟩, HB8.out⟩
  · show _ = Ending.returned (.agg #[.slice sa p.shared.length sc, .slice (some ⟨gb, 0, none⟩) (p.tasks.set i t).length cap])
    rw [List.length_set]
  · have hk' : k < p.tasks.length := by
      have : k < (p.tasks.set i t).length := hk
      rwa [List.length_set] at this
    by_cases e : k = i
    · subst e
      have hget : (swapP p k t).tasks.getD k Tsk.none = t := by show (p.tasks.set k t).getD k Tsk.none = t; simp [hk']
      rw [hget]
      exact ⟨gb, 0, q, rfl, fun o ho => by rw [hcell k o hk' ho, if_pos rfl], HT.out.below HB8.out⟩
    · have hget : (swapP p i t).tasks.getD k Tsk.none = p.tasks.getD k Tsk.none := by
        show (p.tasks.set i t).getD k Tsk.none = _
        rw [List.getD_eq_getElem?_getD, List.getElem?_set_ne (fun h => e h.symm), ← List.getD_eq_getElem?_getD]
      obtain ⟨b2, off2, p2, ha2, hc2, hin⟩ := HP.out.2.2 k hk'
      cases ha2
      rw [hget]
      exact ⟨gb, 0, p2, rfl, fun o ho => by rw [hcell k o hk' ho, if_neg e]; exact hc2 o ho, hin.below HB8.out⟩
end Go.Proofs.YtnegdmhmhdojbaaDoor
