/-
  Contract: copied (package ontimelaw19): a function whose blocks, and their code, lie in rows of the call's own.
-/
import Derived.Test.YteknhnnlhhgppaaDoorMg19
import Derived.Test.YteknhnnlhhgppaaDoorMg43
import Derived.Test.YteknhnnlhhgppaaDoorIrPlain
import Derived.Test.YteknhnnlhhgppaaDoorMg9
import Derived.Deep.RegionHeld
namespace Go.Proofs.YteknhnnlhhgppaaDoor
set_option linter.unusedVariables false
set_option linter.unusedSimpArgs false
open Go.RowKit
set_option maxRecDepth 100000
set_option maxHeartbeats 8000000

theorem Tryd.infoIns : (Tryd.prog.info? 54).map (fun i => (i.zero, i.size, i.bytes)) = some (some (.agg #[.int .u8 0, .int .i64 0, .int .i64 0, .int .i64 0, .int .i64 0, .string ⟨#[]⟩]), 6, 56) := by kernel_rfl
theorem Tryd.infoBlk : (Tryd.prog.info? 43).map (fun i => (i.zero, i.size, i.bytes)) = some (some (.agg #[.slice none 0 0, .int .u8 0, .int .i64 0, .int .i64 0, .int .i64 0]), 5, 56) := by kernel_rfl
/-- blocks, with where their code lies -/
theorem blks_list {w : World} {b : Nat} : ∀ {l : List Blk} {off : Nat}, (∀ (k : Nat) (x : Blk), l[k]? = some x → ∃ ca cc, BlkAt w b (off + k * 5) x ca cc ∧ CodeAt w ca x.code) →
    ∃ L : List BlkP, L.map (·.blk) = l ∧ ∀ (k : Nat) (p : BlkP), L[k]? = some p → BlkAt w b (off + k * 5) p.blk p.a p.c ∧ CodeAt w p.a p.blk.code
  | [], _, _ => ⟨[], rfl, fun k p h => by simp at h⟩
  | x :: l, off, h => by
    obtain ⟨ca, cc, h1, h2⟩ := h 0 x rfl
    obtain ⟨L, e, hL⟩ := blks_list (l := l) (off := off + 5) (fun k y hy => by
      have := h (k + 1) y (by simpa using hy)
      rwa [show off + (k + 1) * 5 = off + 5 + k * 5 by omega] at this)
    refine ⟨⟨x, ca, cc⟩ :: L, by simp [e], fun k p hp => ?_⟩
    match k, hp with
    | 0, hp =>
      obtain rfl : (⟨x, ca, cc⟩ : BlkP) = p := by simpa using hp
      exact ⟨h1, h2⟩
    | k + 1, hp =>
      have := hL k p (by simpa using hp)
      rwa [show off + (k + 1) * 5 = off + 5 + k * 5 by omega]
theorem blkCells_one (L : List BlkP) : ∀ u ∈ L.flatMap BlkP.cells, u.oneCell' = true := by
  intro u hu
  obtain ⟨p, _, hp⟩ := List.mem_flatMap.1 hu
  exact p.one u hp
theorem blks_src {w : World} {a : Option Addr} {l : List Blk} (h : BlksAt w a l) : ∃ L : List BlkP, L.map (·.blk) = l ∧ Src w a L.length 5 (L.flatMap BlkP.cells) ∧ ∀ p ∈ L, CodeAt w p.a p.blk.code := by
  rcases h.at_ with h0 | ⟨b, off, ha, hc⟩
  · obtain rfl : l = [] := List.length_eq_zero_iff.1 h0
    exact ⟨[], rfl, ⟨rfl, .inl rfl⟩, fun p hp => by cases hp⟩
  · obtain ⟨L, e, hL⟩ := blks_list hc
    refine ⟨L, e, src_flat BlkP.cells_len (by omega) (.inr ⟨b, off, ha, fun k x hx o ho => ?_⟩), fun p hp => ?_⟩
    · obtain ⟨h0, h1, h2, h3, h4⟩ := (hL k x hx).1
      match o, ho with
      | 0, _ => exact h0
      | 1, _ => exact h1
      | 2, _ => exact h2
      | 3, _ => exact h3
      | 4, _ => exact h4
    · obtain ⟨k, hk⟩ := List.getElem?_of_mem hp
      exact (hL k p hk).2
/-- two rows of different types lie in different blocks -/
theorem rows_apart {N N' : Nat} {T E : TypeId} {w : World} {g c n m s s' : Nat} {v : Value} {xs ys : List Value} (hne : T ≠ E) (h : w.ownsRow N T s (.slice (some ⟨g, 0, none⟩) n c) n xs) (k : w.ownsRow N' E s' v m ys) : v.ownBlock ≠ some g := by
  obtain ⟨arr, f, hbk⟩ : ∃ arr f, w.heap[g]? = some (.cells arr T f) := by
    rcases h.2 with ⟨e1, _⟩ | ⟨g', cap, cur, e1, _, hc, _⟩
    · cases e1
    · injection e1 with e1 _ _
      injection e1 with e1
      injection e1 with e1
      subst e1
      exact ⟨_, _, hc⟩
  intro e
  rcases k.2 with ⟨e1, _⟩ | ⟨g', cap, cur, e1, _, hc, _⟩
  · rw [e1] at e; cases e
  · rw [e1] at e
    have e2 : g' = g := by injection e
    subst e2
    rw [hbk] at hc
    injection hc with hc
    injection hc with _ e2
    exact hne e2
/-- the row of blocks; the code of the first k is copied -/
structure RecSt (N : Nat) (T E : TypeId) (w : World) (g c n k : Nat) (l : List BlkP) : Prop where
  row : w.ownsRow N T 5 (.slice (some ⟨g, 0, none⟩) n c) n (l.flatMap BlkP.cells)
  len : l.length = n
  code : ∀ (i : Nat) (p : BlkP), i < k → l[i]? = some p → w.ownsRow N E 6 p.code p.blk.code.length (codeCells p.blk.code)
  each : ∀ (i j : Nat) (p q : BlkP), i < k → j < k → l[i]? = some p → l[j]? = some q → i ≠ j → p.code.ownBlock = none ∨ p.code.ownBlock ≠ q.code.ownBlock
section
variable {N : Nat} {T E : TypeId} {w w' : World} {g c n k : Nat} {l : List BlkP}
theorem RecSt.keep (h : RecSt N T E w g c n k l) (hb : Below w.heap.size w w') : RecSt N T E w' g c n k l :=
  ⟨ownsRow_below h.row hb, h.len, fun i p hi hp => ownsRow_below (h.code i p hi hp) hb, h.each⟩
theorem RecSt.cellBlk (h : RecSt N T E w g c n k l) {i o : Nat} {p : BlkP} {u : Value} (hp : l[i]? = some p) (ho : o < 5) (hu : p.cells[o]? = some u) : w.cell? ⟨g, i * 5 + o, none⟩ = some u :=
  own_cell h.row ((flat_get BlkP.cells_len hp ho).trans hu)
theorem RecSt.own (h : RecSt N T E w g c n n l) (hne : T ≠ E) (hw : ∀ p ∈ l, p.blk.Wf) (hi : ∀ p ∈ l, ∀ i ∈ p.blk.code, i.Wf) (hs : ∀ p ∈ l, p.blk.code.length ≤ 1000000) : BlkOwn N T E w (.slice (some ⟨g, 0, none⟩) n c) l := by
  have lt : ∀ {i : Nat} {p : BlkP}, l[i]? = some p → i < n := fun hp => by rw [← h.len]; exact (List.getElem?_eq_some_iff.1 hp).1
  refine ⟨by rw [h.len]; exact h.row, hw, hi, hs, fun p hp => ?_, fun p hp => ?_, fun i j p q hp hq => h.each i j p q (lt hp) (lt hq) hp hq⟩
  · obtain ⟨i, hi⟩ := List.getElem?_of_mem hp
    exact h.code i p (lt hi) hi
  · obtain ⟨i, hi⟩ := List.getElem?_of_mem hp
    exact .inr (fun e => rows_apart hne h.row (h.code i p (lt hi) hi) e.symm)
theorem RecSt.put {V : World} {p : BlkP} {xa : Option Addr} {xc : Nat} (h : RecSt N T E w g c n k l) (hne0 : T ≠ E) (hN : N ≤ w.heap.size) (hp : l[k]? = some p) (hB : Below w.heap.size w V) (hc : V.ownsRow w.heap.size E 6 (.slice xa p.blk.code.length xc) p.blk.code.length (codeCells p.blk.code)) :
    RecSt N T E (V.setCell ⟨g, k * 5, none⟩ (.slice xa p.blk.code.length xc)) g c n (k + 1) (l.set k ⟨p.blk, xa, xc⟩) := by
  have hkl : k < l.length := (List.getElem?_eq_some_iff.1 hp).1
  have hV := h.keep hB
  have hg : g < w.heap.size := (ownsRow_lt h.row rfl).2
  have old : ∀ {i : Nat} {q : BlkP}, (l.set k ⟨p.blk, xa, xc⟩)[i]? = some q → (i = k ∧ q = ⟨p.blk, xa, xc⟩) ∨ (i ≠ k ∧ l[i]? = some q) := fun hq => set_get hq
  have lo : ∀ {i : Nat} {q : BlkP} {b : Nat}, i < k → l[i]? = some q → q.code.ownBlock = some b → b < w.heap.size ∧ N ≤ b := fun hi hq hb => ⟨(ownsRow_lt (h.code _ _ hi hq) hb).2, (ownsRow_lt (h.code _ _ hi hq) hb).1⟩
  refine ⟨?_, by rw [List.length_set, h.len], fun i q hi hq => ?_, fun i j q r hi hj hq hr hij => ?_⟩
  · rw [← flat_set BlkP.cells_len (o := 0) hp (by omega) (show (⟨p.blk, xa, xc⟩ : BlkP).cells = p.cells.set 0 (.slice xa p.blk.code.length xc) from rfl)]
    have := ownsRow_set (j := k * 5) (u := .slice xa p.blk.code.length xc) hV.row (by have := h.len; omega)
    simpa using this
  · rcases old hq with ⟨rfl, rfl⟩ | ⟨hne, hq⟩
    · exact ownsRow_base (ownsRow_move hc fun b hb _ => Below.heap_setCell _ _ _ _ (by have := (ownsRow_lt hc hb).1; show b ≠ g; omega)) hN
    · have hik : i < k := by omega
      refine ownsRow_move (hV.code i q hik hq) fun b hb _ => Below.heap_setCell _ _ _ _ ?_
      show b ≠ g
      rintro rfl
      exact rows_apart hne0 hV.row (hV.code i q hik hq) hb
  · rcases old hq with ⟨rfl, rfl⟩ | ⟨hne, hq⟩
    · rcases old hr with ⟨rfl, rfl⟩ | ⟨hne2, hr⟩
      · omega
      · cases hb : (⟨p.blk, xa, xc⟩ : BlkP).code.ownBlock with
        | none => exact .inl rfl
        | some b => exact .inr (fun e => by have h1 := (ownsRow_lt hc hb).1; have h2 := (lo (i := j) (by omega) hr e.symm).1; omega)
    · have hq2 := hq
      rcases old hr with ⟨rfl, rfl⟩ | ⟨hne2, hr⟩
      · cases hb : q.code.ownBlock with
        | none => exact .inl rfl
        | some b => exact .inr (fun e => by have h1 := (ownsRow_lt hc e.symm).1; have h2 := (lo (i := i) (by omega) hq2 hb).1; omega)
      · exact h.each i j q r (by omega) (by omega) hq2 hr hij
end
theorem blk_kept {l : List BlkP} {k : Nat} {p : BlkP} {xa : Option Addr} {xc : Nat} {bs : List Blk} (hp : l[k]? = some p) (h : l.map (·.blk) = bs) : (l.set k ⟨p.blk, xa, xc⟩).map (·.blk) = bs := by
  rw [List.map_set, ← h]
  apply List.ext_getElem?
  intro i
  rw [List.getElem?_set]
  split
  · rename_i e
    subst e
    split
    · rw [List.getElem?_map, hp]; rfl
    · rename_i hl
      have := (List.getElem?_eq_some_iff.1 hp).1
      simp at hl
      omega
  · rfl
theorem copied19_any (f : Fn) (aa ba : Option Addr) (ac bc : Nat) (w : World) (hf : FnAt w f aa ba) (hn0 : 0 < f.blocks.length) (hbl : f.blocks.length ≤ 1000000) (hcl : ∀ b ∈ f.blocks, b.code.length ≤ 1000000) :
    Calls Tryd.prog 25 #[fnVal f.name f.regs aa f.arrays.length ac ba f.blocks.length bc] w fun e w' => ∃ (g bc' : Nat) (l : List BlkP), e = .returned (fnVal f.name f.regs aa f.arrays.length ac (some ⟨g, 0, none⟩) f.blocks.length bc') ∧
      BlkOwn w.heap.size 43 54 w' (.slice (some ⟨g, 0, none⟩) f.blocks.length bc') l ∧ l.map (·.blk) = f.blocks ∧ Below w.heap.size w w' := by
  have HF := Lib.hid hf
  have HCL := Lib.hid hcl
  obtain ⟨n, hn⟩ : ∃ n, f.blocks.length = n := ⟨_, rfl⟩
  have HN := Lib.hid hn
  rw [hn] at hn0 hbl ⊢
  clear hf hcl hn
  obtain ⟨W, hW⟩ : ∃ W : World, (w.alloc (.cells #[.string f.name, .int .i64 f.regs, .slice aa f.arrays.length ac, .slice ba n bc] 25)).alloc (.cells #[.string ⟨#[]⟩, .int .i64 0, .slice none 0 0, .slice none 0 0] 25) = W := ⟨_, rfl⟩
  have hWs : W.heap.size = w.heap.size + 2 := by rw [← hW]; simp
  have HBW : Hid (Below w.heap.size w W) := by show Below _ _ _; rw [← hW]; exact ((Below.refl _ _).alloc (Nat.le_refl _) _).alloc (by simp) _
  have x3 : W.cell? ⟨w.heap.size, 3, none⟩ = some (.slice ba n bc) := by rw [← hW]; simp [World.cell?_alloc_past]
  have HX : Hid (W.heap[w.heap.size]? = some (.cells #[.string f.name, .int .i64 f.regs, .slice aa f.arrays.length ac, .slice ba n bc] 25)) := by
    show _ = _
    rw [← hW, Below.heap_alloc _ _ _ (by simp)]
    exact (MapKept.heap_alloc w _).1
  have HZ : Hid (W.heap[w.heap.size + 1]? = some (.cells #[.string ⟨#[]⟩, .int .i64 0, .slice none 0 0, .slice none 0 0] 25)) := by
    show _ = _
    rw [← hW]
    exact MapKept.heap_alloc (w.alloc _) _ |>.1 |> fun h => by simpa using h
  obtain ⟨i0, hi, hz0, hz1, hz2⟩ := info_parts Tryd.infoBlk
  obtain ⟨L, hLe, hLs, hLc⟩ := blks_src HF.out.blocks
  have hLn : L.length = n := by have := congrArg List.length hLe; rw [List.length_map] at this; rw [this, HN.out]
  rw [hLn] at hLs
  have HLE := Lib.hid hLe
  have HLC := Lib.hid hLc
  have HLN := Lib.hid hLn
  have HSRC : Hid (Src (W.alloc (.cells #[] 43)) ba n 5 (L.flatMap BlkP.cells)) := by
    refine ⟨hLs.1, hLs.2.imp id fun ⟨ad, h1, h2⟩ => ⟨ad, h1, fun j u hu => ?_⟩⟩
    have h9 := h2 j u hu
    exact ((HBW.out.trans ((Below.refl _ _).alloc (Nat.le_refl _) _ |>.mono HBW.out.size)).cell (World.block_lt_of_cell? w _ h9)).trans h9
  have HMADE : Hid ((W.alloc (.cells #[] 43)).ownsRow (w.heap.size + 2) 43 5 (.slice (some ⟨w.heap.size + 2, 0, none⟩) 0 0) 0 []) := by
    show World.ownsRow _ _ _ _ _ _ _
    have := World.ownsRow_made (base := w.heap.size + 2) (e := 43) (size := 5) W #[] 0 (by omega) (by unfold maxLen; omega) rfl
    rwa [hWs] at this
  clear hLe hLs hLc hLn
  go_enter Tryd.func25, Tryd.ntmps25
  go_wp2_with (at_builtin; refine wpList_append_src _ rfl (.tmp 4) (.tmp 6) 23 rfl (w.heap.size + 2) 43 i0 _ 5 56 Tryd.underlying23 hi hz0 hz1 hz2 rfl (by decide) (.slice (some ⟨w.heap.size + 2, 0, none⟩) 0 0) 0 [] rfl HMADE.out ba n bc (L.flatMap BlkP.cells) rfl HSRC.out (blkCells_one L) (by unfold maxLen; omega) (by omega) (by simp; omega) ?_)
  intro v5 w5 hown5 hgrow5 hplace5
  obtain ⟨na, bc', rfl⟩ := ownsRow_val hown5
  obtain ⟨g, rfl, hgb, _, _⟩ := own_some hown5 hn0
  have HX5 : Hid (w5.heap[w.heap.size]? = some (.cells #[.string f.name, .int .i64 f.regs, .slice aa f.arrays.length ac, .slice ba n bc] 25)) :=
    (hgrow5.block _ (by simp; omega) (fun e => absurd (Option.some.inj e) (by show ¬ (w.heap.size = w.heap.size + 2); omega))).trans ((Below.heap_alloc _ _ _ (by omega)).trans HX.out)
  have HZ5 : Hid (w5.heap[w.heap.size + 1]? = some (.cells #[.string ⟨#[]⟩, .int .i64 0, .slice none 0 0, .slice none 0 0] 25)) :=
    (hgrow5.block _ (by simp; omega) (fun e => absurd (Option.some.inj e) (by show ¬ (w.heap.size + 1 = w.heap.size + 2); omega))).trans ((Below.heap_alloc _ _ _ (by omega)).trans HZ.out)
  have HB5 : Hid (Below W.heap.size W w5) := ((Below.refl _ _).alloc (Nat.le_refl _) _ |>.grown hgrow5 (by simp) (fun k hk => by cases hk; show W.heap.size ≤ w.heap.size + 2; omega))
  have HO5 : Hid (w5.ownsRow (w.heap.size + 2) 43 5 (.slice (some ⟨g, 0, none⟩) n bc') n (L.flatMap BlkP.cells)) := by show World.ownsRow _ _ _ _ _ _ _; simpa using hown5
  have y3 : w5.frozen? ⟨w.heap.size, 3, none⟩ = false := frozen_heap HX5.out 3
  have q3 : w5.cell? ⟨w.heap.size, 3, none⟩ = some (.slice ba n bc) := cell_heap HX5.out 3
  have hw5s := HB5.out.size
  obtain ⟨X, hX⟩ : ∃ X : World, w5.setCell ⟨w.heap.size, 3, none⟩ (.slice (some ⟨g, 0, none⟩) n bc') = X := ⟨_, rfl⟩
  have HXX : Hid (X.heap[w.heap.size]? = some (.cells #[.string f.name, .int .i64 f.regs, .slice aa f.arrays.length ac, .slice (some ⟨g, 0, none⟩) n bc'] 25)) := by
    show _ = _
    rw [← hX, setCell_heap HX5.out]
    simp
  have HXB : Hid (Below w.heap.size w X) := by
    show Below _ _ _
    rw [← hX]
    exact (HBW.out.trans (HB5.out.mono (by omega))).setCell (Nat.le_refl _) _
  have HXZ : Hid (X.heap[w.heap.size + 1]? = some (.cells #[.string ⟨#[]⟩, .int .i64 0, .slice none 0 0, .slice none 0 0] 25)) := by
    show _ = _
    rw [← hX, Below.heap_setCell _ _ _ _ (by show w.heap.size + 1 ≠ w.heap.size; omega)]
    exact HZ5.out
  have HXR : Hid (RecSt (w.heap.size + 2) 43 54 X g bc' n 0 L) := by
    refine ⟨?_, HLN.out, fun i p hi => absurd hi (by omega), fun i j p q hi => absurd hi (by omega)⟩
    rw [← hX]
    exact ownsRow_move HO5.out (fun k hk _ => Below.heap_setCell _ _ _ _ (by have := (ownsRow_lt HO5.out hk).1; show k ≠ w.heap.size; omega))
  clear hown5 hgrow5 hplace5 hW x3 HSRC HMADE
  have q9 : X.cell? ⟨w.heap.size, 3, none⟩ = some (.slice (some ⟨g, 0, none⟩) n bc') := cell_heap HXX.out 3
  go_wp2_with fail
  clear hX y3 q3 q9
  go_loopw [12] (fun iv wr => ∃ (k : Nat) (l : List BlkP), k ≤ n ∧ iv = .int .i64 (k : Int) ∧ RecSt (w.heap.size + 2) 43 54 wr g bc' n k l ∧ l.map (·.blk) = f.blocks ∧ (∀ i, k ≤ i → l[i]? = L[i]?) ∧
      wr.heap[w.heap.size]? = some (.cells #[.string f.name, .int .i64 f.regs, .slice aa f.arrays.length ac, .slice (some ⟨g, 0, none⟩) n bc'] 25) ∧ wr.heap[w.heap.size + 1]? = some (.cells #[.string ⟨#[]⟩, .int .i64 0, .slice none 0 0, .slice none 0 0] 25) ∧ Below w.heap.size w wr ∧ w.heap.size + 2 ≤ wr.heap.size) (fun iv _ => n - (intOf iv).toNat)
  case atStart => exact ⟨0, L, Nat.zero_le _, rfl, HXR.out, HLE.out, fun _ _ => rfl, HXX.out, HXZ.out, HXB.out, by have := lt_heap HXZ.out; omega⟩
  case round =>
    clear HXR HXX HXZ HXB
    obtain ⟨k, l, hk, rfl, hrec, hle, hrest, hbx, hbz, hbel, hsz⟩ := hrel
    have HREC := Lib.hid hrec
    have HLL := Lib.hid hle
    have HRST := Lib.hid hrest
    have HBX := Lib.hid hbx
    have HBZ := Lib.hid hbz
    have HBEL := Lib.hid hbel
    have hk0 : (0 : Int) ≤ (k : Int) := by omega
    clear hrec hle hrest hbx hbz hbel
    by_cases hlt : k < n
    · have hlt2 : (k : Int) < (n : Int) := by omega
      obtain ⟨p, hp⟩ : ∃ p, l[k]? = some p := ⟨_, List.getElem?_eq_getElem (by rw [HREC.out.len]; exact hlt)⟩
      have HP := Lib.hid hp
      have hpL : p ∈ L := List.mem_of_getElem? (by rw [← HRST.out k (Nat.le_refl _)]; exact hp)
      have hpb : p.blk ∈ f.blocks := by rw [← HLL.out]; exact List.mem_map_of_mem (List.mem_of_getElem? hp)
      have hpc := HCL.out _ hpb
      have HCO := Lib.hid (HLC.out p hpL)
      have HS : Hid (∀ w', Below wr.heap.size wr w' → (w'.cell? ⟨w.heap.size, 3, none⟩ = some (.slice (some ⟨g, 0, none⟩) n bc') ∧ w'.cell? ⟨g, k * 5, none⟩ = some (.slice p.a p.blk.code.length p.c))) := fun w' h => by
        refine ⟨cell_heap ((h.block _ (lt_heap HBX.out)).trans HBX.out) 3, ?_⟩
        exact cell_below h (HREC.out.cellBlk (o := 0) HP.out (by omega) rfl)
      obtain ⟨j0, hj, jz0, jz1, jz2⟩ := info_parts Tryd.infoIns
      clear hp hpL hpb
      go_wp2_with fail
      refine wp_region_held_drew (S := fun w' => w'.cell? ⟨w.heap.size, 3, none⟩ = some (.slice (some ⟨g, 0, none⟩) n bc')) (by kernel_rfl) (HS.out _ (Below.refl _ _).drew).1 (fun hHeld => ?_)
      have HBD : Hid (Below wr.heap.size wr wr.drew) := (Below.refl _ _).drew
      generalize hwd : wr.drew = D at hHeld HBD ⊢
      have hDs : D.heap.size = wr.heap.size := by rw [← hwd]; rfl
      have HBA2 : Hid (Below wr.heap.size wr (D.alloc (.cells #[] 54))) := HBD.out.alloc (by omega) _
      have HMADE : Hid ((D.alloc (.cells #[] 54)).ownsRow wr.heap.size 54 6 (.slice (some ⟨wr.heap.size, 0, none⟩) 0 0) 0 []) := by
        show World.ownsRow _ _ _ _ _ _ _
        have := World.ownsRow_made (base := wr.heap.size) (e := 54) (size := 6) D #[] 0 (by omega) (by unfold maxLen; omega) rfl
        rwa [hDs] at this
      have HSRC : Hid (Src (D.alloc (.cells #[] 54)) p.a p.blk.code.length 6 (codeCells p.blk.code)) := code_src (HCO.out.below (below_step HBEL.out HBA2.out))
      have c9 : D.cell? ⟨g, k * 5, none⟩ = some (.slice p.a p.blk.code.length p.c) := (HS.out _ HBD.out).2
      have c8 : (D.alloc (.cells #[] 54)).cell? ⟨g, k * 5, none⟩ = some (.slice p.a p.blk.code.length p.c) := (HS.out _ HBA2.out).2
      clear hwd
      refine wpAnyH_take (i := 0) (v := .pointer (some ⟨w.heap.size, 3, none⟩)) rfl (by kernel_rfl) (by kernel_rfl) (by kernel_rfl) (fun _ _ _ h => h) (Or.inl ⟨by rfl, ?_⟩) (by assumption) ?_
      · intro w' hSw; go_simp
      (try simp only [Act.put, List.getElem_toArray, List.getElem_cons_zero, List.setIfInBounds_toArray, List.set_cons_zero, List.set_cons_succ])
      refine wpAnyH_take (i := 1) (v := .slice (some ⟨g, 0, none⟩) n bc') rfl (by kernel_rfl) (by kernel_rfl) (by kernel_rfl) (fun _ _ _ h => h) (Or.inl ⟨by rfl, ?_⟩) (by assumption) ?_
      · intro w' hSw; go_simp
      (try simp only [Act.put, List.getElem_toArray, List.getElem_cons_zero, List.getElem_cons_succ, List.setIfInBounds_toArray, List.set_cons_zero, List.set_cons_succ])
      refine wpAnyH_take (i := 2) (v := .int .i64 (k : Int)) rfl (by kernel_rfl) (by kernel_rfl) (by kernel_rfl) (fun _ _ _ h => h) (Or.inl ⟨by rfl, ?_⟩) (by assumption) ?_
      · intro w' hSw; go_simp
      (try simp only [Act.put, List.getElem_toArray, List.getElem_cons_zero, List.getElem_cons_succ, List.setIfInBounds_toArray, List.set_cons_zero, List.set_cons_succ])
      refine wpAnyH_take (i := 4) (v := .pointer (some ⟨w.heap.size, 3, none⟩)) rfl (by kernel_rfl) (by kernel_rfl) (by kernel_rfl) (fun _ _ _ h => h) (Or.inl ⟨by rfl, ?_⟩) (by assumption) ?_
      · intro w' hSw; go_simp
      (try simp only [Act.put, List.getElem_toArray, List.getElem_cons_zero, List.getElem_cons_succ, List.setIfInBounds_toArray, List.set_cons_zero, List.set_cons_succ])
      refine wpAnyH_take (i := 5) (v := .slice (some ⟨g, 0, none⟩) n bc') rfl (by kernel_rfl) (by kernel_rfl) (by kernel_rfl) (fun _ _ _ h => h) (Or.inl ⟨by rfl, ?_⟩) (by assumption) ?_
      · intro w' hSw; go_simp
      (try simp only [Act.put, List.getElem_toArray, List.getElem_cons_zero, List.getElem_cons_succ, List.setIfInBounds_toArray, List.set_cons_zero, List.set_cons_succ])
      refine wpAnyH_take (i := 6) (v := .int .i64 (k : Int)) rfl (by kernel_rfl) (by kernel_rfl) (by kernel_rfl) (fun _ _ _ h => h) (Or.inl ⟨by rfl, ?_⟩) (by assumption) ?_
      · intro w' hSw; go_simp
      (try simp only [Act.put, List.getElem_toArray, List.getElem_cons_zero, List.getElem_cons_succ, List.setIfInBounds_toArray, List.set_cons_zero, List.set_cons_succ])
      refine wpAnyH_take (i := 7) (v := .pointer (some ⟨g, k * 5, none⟩)) rfl (by kernel_rfl) (by kernel_rfl) (by kernel_rfl) (fun _ _ _ h => h) (Or.inl ⟨by rfl, ?_⟩) (by assumption) ?_
      · intro w' hSw; go_simp
      (try simp only [Act.put, List.getElem_toArray, List.getElem_cons_zero, List.getElem_cons_succ, List.setIfInBounds_toArray, List.set_cons_zero, List.set_cons_succ])
      refine wpAnyH_take (i := 8) (v := .pointer (some ⟨g, k * 5, none⟩)) rfl (by kernel_rfl) (by kernel_rfl) (by kernel_rfl) (fun _ _ _ h => h) (Or.inl ⟨by rfl, ?_⟩) (by assumption) ?_
      · intro w' hSw; go_simp
      (try simp only [Act.put, List.getElem_toArray, List.getElem_cons_zero, List.getElem_cons_succ, List.setIfInBounds_toArray, List.set_cons_zero, List.set_cons_succ])
      refine wpAnyH_ready (rs := [3, 9]) (by kernel_rfl) (by simp) (AllReadyH.cons rfl (fun K hK => ?_) (AllReadyH.cons rfl (fun K hK => ?_) AllReadyH.nil))
      · go_simp
        refine hK.out _ _ ((HS.out _ HBA2.out).1) (fun hHeld => ?_)
        clear hK K
        rename_i hOld
        clear hOld
        (try simp only [Act.put, List.getElem_toArray, List.getElem_cons_zero, List.getElem_cons_succ, List.setIfInBounds_toArray, List.set_cons_zero, List.set_cons_succ])
        refine wpAnyH_ready (rs := [9]) (by kernel_rfl) (by simp) (AllReadyH.cons rfl (fun K hK => ?_) AllReadyH.nil)
        go_simp
        refine hK.out _ _ ((HS.out _ HBA2.out).1) (fun hHeld => ?_)
        clear hK K
        rename_i hOld
        clear hOld
        (try simp only [Act.put, List.getElem_toArray, List.getElem_cons_zero, List.getElem_cons_succ, List.setIfInBounds_toArray, List.set_cons_zero, List.set_cons_succ])
        clear c9 c8
        refine wpAnyH_ready (rs := [10]) (by kernel_rfl) (by simp) (AllReadyH.cons rfl (fun K hK => ?_) AllReadyH.nil)
        refine step_append_src _ rfl (.tmp 18) (.tmp 24) 41 rfl wr.heap.size 54 j0 _ 6 56 Tryd.underlying41 hj jz0 jz1 jz2 rfl (by decide) (.slice (some ⟨wr.heap.size, 0, none⟩) 0 0) 0 [] (by simp [Act.eval]) HMADE.out p.a p.blk.code.length p.c (codeCells p.blk.code) (by simp [Act.eval]) HSRC.out (codeCells_one _) (by unfold maxLen; omega) (by omega) (by simp; omega) ?_
        intro v6 w6 hown6 hgrow6 hplace6
        rw [Nat.zero_add, List.nil_append] at hown6
        obtain ⟨xa, xc, rfl⟩ := ownsRow_val hown6
        have HB6 : Hid (Below wr.heap.size wr w6) := HBA2.out.grown hgrow6 (by simp; omega) (fun k hk => by cases hk; exact Nat.le_refl _)
        have HO6 := Lib.hid hown6
        clear hown6 hgrow6 hplace6
        refine hK.out _ _ ((HS.out _ HB6.out).1) (fun hHeld => ?_)
        clear hK K
        rename_i hOld
        clear hOld
        (try simp only [Act.put, List.getElem_toArray, List.getElem_cons_zero, List.getElem_cons_succ, List.setIfInBounds_toArray, List.set_cons_zero, List.set_cons_succ])
        refine wpAnyH_take (i := 11) (v := .pointer (some ⟨g, k * 5, none⟩)) rfl (by kernel_rfl) (by kernel_rfl) (by kernel_rfl) (fun _ _ _ h => h) (Or.inl ⟨by rfl, ?_⟩) (by assumption) ?_
        · intro w' hSw; go_simp
        (try simp only [Act.put, List.getElem_toArray, List.getElem_cons_zero, List.getElem_cons_succ, List.setIfInBounds_toArray, List.set_cons_zero, List.set_cons_succ])
        refine wpAnyH_take (i := 12) (v := .pointer (some ⟨g, k * 5, none⟩)) rfl (by kernel_rfl) (by kernel_rfl) (by kernel_rfl) (fun _ _ _ h => h) (Or.inl ⟨by rfl, ?_⟩) (by assumption) ?_
        · intro w' hSw; go_simp
        (try simp only [Act.put, List.getElem_toArray, List.getElem_cons_zero, List.getElem_cons_succ, List.setIfInBounds_toArray, List.set_cons_zero, List.set_cons_succ])
        have c9 := (HS.out _ HB6.out).2
        have f9 : w6.frozen? ⟨g, k * 5, none⟩ = false := row_free (HREC.out.keep HB6.out).row _
        refine wpAnyH_ready (rs := [13]) (by kernel_rfl) (by simp) (AllReadyH.cons rfl (fun K hK => ?_) AllReadyH.nil)
        go_simp
        have HPUT := Lib.hid (HREC.out.put (by decide) (by omega) HP.out HB6.out HO6.out)
        have hg9 : g < wr.heap.size := (ownsRow_lt HREC.out.row rfl).2
        have hg8 : w.heap.size + 2 ≤ g := (ownsRow_lt HREC.out.row rfl).1
        have HBX7 : Hid ((w6.setCell ⟨g, k * 5, none⟩ (.slice xa p.blk.code.length xc)).heap[w.heap.size]? = some (.cells #[.string f.name, .int .i64 f.regs, .slice aa f.arrays.length ac, .slice (some ⟨g, 0, none⟩) n bc'] 25)) := by
          show _ = _
          rw [Below.heap_setCell _ _ _ _ (by show w.heap.size ≠ g; omega)]
          exact (HB6.out.block _ (lt_heap HBX.out)).trans HBX.out
        have HBZ7 : Hid ((w6.setCell ⟨g, k * 5, none⟩ (.slice xa p.blk.code.length xc)).heap[w.heap.size + 1]? = some (.cells #[.string ⟨#[]⟩, .int .i64 0, .slice none 0 0, .slice none 0 0] 25)) := by
          show _ = _
          rw [Below.heap_setCell _ _ _ _ (by show w.heap.size + 1 ≠ g; omega)]
          exact (HB6.out.block _ (lt_heap HBZ.out)).trans HBZ.out
        have HBE7 : Hid (Below w.heap.size w (w6.setCell ⟨g, k * 5, none⟩ (.slice xa p.blk.code.length xc))) := (below_step HBEL.out HB6.out).setCell (by show w.heap.size ≤ g; omega) _
        clear c9 f9
        generalize w6.setCell ⟨g, k * 5, none⟩ (.slice xa p.blk.code.length xc) = w7 at HPUT HBX7 HBZ7 HBE7 ⊢
        refine hK.out _ _ (cell_heap HBX7.out 3) (fun hHeld => ?_)
        clear hK K
        rename_i hOld
        clear hOld
        (try simp only [Act.put, List.getElem_toArray, List.getElem_cons_zero, List.getElem_cons_succ, List.setIfInBounds_toArray, List.set_cons_zero, List.set_cons_succ])
        refine wpAnyH_done (by kernel_rfl) ?_ _
        go_wp2_with fail
        exact ⟨⟨k + 1, l.set k ⟨p.blk, xa, xc⟩, by omega, by go_num, HPUT.out, blk_kept HP.out HLL.out, fun i hi => by rw [List.getElem?_set_ne (by omega)]; exact HRST.out i (by omega), HBX7.out, HBZ7.out, HBE7.out, by have := lt_heap HBZ7.out; omega⟩, by simp [intOf]; omega⟩
      · go_simp
        refine hK.out _ _ (hHeld) (fun hHeld => ?_)
        clear hK K
        rename_i hOld
        clear hOld
        (try simp only [Act.put, List.getElem_toArray, List.getElem_cons_zero, List.getElem_cons_succ, List.setIfInBounds_toArray, List.set_cons_zero, List.set_cons_succ])
        refine wpAnyH_ready (rs := [3]) (by kernel_rfl) (by simp) (AllReadyH.cons rfl (fun K hK => ?_) AllReadyH.nil)
        go_simp
        refine hK.out _ _ ((HS.out _ HBA2.out).1) (fun hHeld => ?_)
        clear hK K
        rename_i hOld
        clear hOld
        (try simp only [Act.put, List.getElem_toArray, List.getElem_cons_zero, List.getElem_cons_succ, List.setIfInBounds_toArray, List.set_cons_zero, List.set_cons_succ])
        clear c9 c8
        refine wpAnyH_ready (rs := [10]) (by kernel_rfl) (by simp) (AllReadyH.cons rfl (fun K hK => ?_) AllReadyH.nil)
        refine step_append_src _ rfl (.tmp 18) (.tmp 24) 41 rfl wr.heap.size 54 j0 _ 6 56 Tryd.underlying41 hj jz0 jz1 jz2 rfl (by decide) (.slice (some ⟨wr.heap.size, 0, none⟩) 0 0) 0 [] (by simp [Act.eval]) HMADE.out p.a p.blk.code.length p.c (codeCells p.blk.code) (by simp [Act.eval]) HSRC.out (codeCells_one _) (by unfold maxLen; omega) (by omega) (by simp; omega) ?_
        intro v6 w6 hown6 hgrow6 hplace6
        rw [Nat.zero_add, List.nil_append] at hown6
        obtain ⟨xa, xc, rfl⟩ := ownsRow_val hown6
        have HB6 : Hid (Below wr.heap.size wr w6) := HBA2.out.grown hgrow6 (by simp; omega) (fun k hk => by cases hk; exact Nat.le_refl _)
        have HO6 := Lib.hid hown6
        clear hown6 hgrow6 hplace6
        refine hK.out _ _ ((HS.out _ HB6.out).1) (fun hHeld => ?_)
        clear hK K
        rename_i hOld
        clear hOld
        (try simp only [Act.put, List.getElem_toArray, List.getElem_cons_zero, List.getElem_cons_succ, List.setIfInBounds_toArray, List.set_cons_zero, List.set_cons_succ])
        refine wpAnyH_take (i := 11) (v := .pointer (some ⟨g, k * 5, none⟩)) rfl (by kernel_rfl) (by kernel_rfl) (by kernel_rfl) (fun _ _ _ h => h) (Or.inl ⟨by rfl, ?_⟩) (by assumption) ?_
        · intro w' hSw; go_simp
        (try simp only [Act.put, List.getElem_toArray, List.getElem_cons_zero, List.getElem_cons_succ, List.setIfInBounds_toArray, List.set_cons_zero, List.set_cons_succ])
        refine wpAnyH_take (i := 12) (v := .pointer (some ⟨g, k * 5, none⟩)) rfl (by kernel_rfl) (by kernel_rfl) (by kernel_rfl) (fun _ _ _ h => h) (Or.inl ⟨by rfl, ?_⟩) (by assumption) ?_
        · intro w' hSw; go_simp
        (try simp only [Act.put, List.getElem_toArray, List.getElem_cons_zero, List.getElem_cons_succ, List.setIfInBounds_toArray, List.set_cons_zero, List.set_cons_succ])
        have c9 := (HS.out _ HB6.out).2
        have f9 : w6.frozen? ⟨g, k * 5, none⟩ = false := row_free (HREC.out.keep HB6.out).row _
        refine wpAnyH_ready (rs := [13]) (by kernel_rfl) (by simp) (AllReadyH.cons rfl (fun K hK => ?_) AllReadyH.nil)
        go_simp
        have HPUT := Lib.hid (HREC.out.put (by decide) (by omega) HP.out HB6.out HO6.out)
        have hg9 : g < wr.heap.size := (ownsRow_lt HREC.out.row rfl).2
        have hg8 : w.heap.size + 2 ≤ g := (ownsRow_lt HREC.out.row rfl).1
        have HBX7 : Hid ((w6.setCell ⟨g, k * 5, none⟩ (.slice xa p.blk.code.length xc)).heap[w.heap.size]? = some (.cells #[.string f.name, .int .i64 f.regs, .slice aa f.arrays.length ac, .slice (some ⟨g, 0, none⟩) n bc'] 25)) := by
          show _ = _
          rw [Below.heap_setCell _ _ _ _ (by show w.heap.size ≠ g; omega)]
          exact (HB6.out.block _ (lt_heap HBX.out)).trans HBX.out
        have HBZ7 : Hid ((w6.setCell ⟨g, k * 5, none⟩ (.slice xa p.blk.code.length xc)).heap[w.heap.size + 1]? = some (.cells #[.string ⟨#[]⟩, .int .i64 0, .slice none 0 0, .slice none 0 0] 25)) := by
          show _ = _
          rw [Below.heap_setCell _ _ _ _ (by show w.heap.size + 1 ≠ g; omega)]
          exact (HB6.out.block _ (lt_heap HBZ.out)).trans HBZ.out
        have HBE7 : Hid (Below w.heap.size w (w6.setCell ⟨g, k * 5, none⟩ (.slice xa p.blk.code.length xc))) := (below_step HBEL.out HB6.out).setCell (by show w.heap.size ≤ g; omega) _
        clear c9 f9
        generalize w6.setCell ⟨g, k * 5, none⟩ (.slice xa p.blk.code.length xc) = w7 at HPUT HBX7 HBZ7 HBE7 ⊢
        refine hK.out _ _ (cell_heap HBX7.out 3) (fun hHeld => ?_)
        clear hK K
        rename_i hOld
        clear hOld
        (try simp only [Act.put, List.getElem_toArray, List.getElem_cons_zero, List.getElem_cons_succ, List.setIfInBounds_toArray, List.set_cons_zero, List.set_cons_succ])
        refine wpAnyH_done (by kernel_rfl) ?_ _
        go_wp2_with fail
        exact ⟨⟨k + 1, l.set k ⟨p.blk, xa, xc⟩, by omega, by go_num, HPUT.out, blk_kept HP.out HLL.out, fun i hi => by rw [List.getElem?_set_ne (by omega)]; exact HRST.out i (by omega), HBX7.out, HBZ7.out, HBE7.out, by have := lt_heap HBZ7.out; omega⟩, by simp [intOf]; omega⟩
    · obtain rfl : k = n := by omega
      have HFIN := Lib.hid (HREC.out.own (by decide) (fun p hp => HF.out.blocks.wf _ (by rw [← HLL.out]; exact List.mem_map_of_mem hp)) (fun p hp i hi => by
        have hpb : p.blk ∈ f.blocks := by rw [← HLL.out]; exact List.mem_map_of_mem hp
        obtain ⟨k', hk'⟩ := List.getElem?_of_mem hpb
        rcases HF.out.blocks.at_ with h0 | ⟨b, off, _, hc⟩
        · have := HN.out; omega
        · obtain ⟨ca, cc, _, h2⟩ := hc k' _ hk'
          exact h2.wf i hi) (fun p hp => HCL.out _ (by rw [← HLL.out]; exact List.mem_map_of_mem hp)))
      have z0 := cell_heap HBX.out 0
      have z1 := cell_heap HBX.out 1
      have z2 := cell_heap HBX.out 2
      have z3 := cell_heap HBX.out 3
      have q0 := cell_heap HBZ.out 0
      have q1 := cell_heap HBZ.out 1
      have q2 := cell_heap HBZ.out 2
      have q3 := cell_heap HBZ.out 3
      have z := frozen_heap HBZ.out
      simp only [List.getElem?_toArray, List.getElem?_cons_zero, List.getElem?_cons_succ] at z0 z1 z2 z3 q0 q1 q2 q3
      go_wp2_with fail
      have HS4 := Lib.hid (four_set (v0 := .string f.name) (v1 := .int .i64 f.regs) (v2 := .slice aa f.arrays.length ac) (v3 := .slice (some ⟨g, 0, none⟩) k bc') HBZ.out)
      have HB4 := Lib.hid (four_below (v0 := .string f.name) (v1 := .int .i64 f.regs) (v2 := .slice aa f.arrays.length ac) (v3 := .slice (some ⟨g, 0, none⟩) k bc') (b := w.heap.size + 1) HBEL.out (Nat.le_succ _))
      have HR4 := Lib.hid (HFIN.out.move (w' := ((((wr.setCell ⟨w.heap.size + 1, 0, none⟩ (.string f.name)).setCell ⟨w.heap.size + 1, 1, none⟩ (.int .i64 f.regs)).setCell ⟨w.heap.size + 1, 2, none⟩ (.slice aa f.arrays.length ac)).setCell ⟨w.heap.size + 1, 3, none⟩ (.slice (some ⟨g, 0, none⟩) k bc'))) (fun b hb _ => four_other (by omega)))
      generalize World.setCell _ _ _ = X at HS4 HB4 HR4 ⊢
      have e0 := cell_heap HS4.out 0
      have e1 := cell_heap HS4.out 1
      have e2 := cell_heap HS4.out 2
      have e3 := cell_heap HS4.out 3
      simp only [List.getElem?_toArray, List.getElem?_cons_zero, List.getElem?_cons_succ] at e0 e1 e2 e3
      have hrow := HR4.out
      exact bodyPost_ret (v := fnVal f.name f.regs aa f.arrays.length ac (some ⟨g, 0, none⟩) k bc') (by simp [results, Tryd.results25, go_sem, e0, e1, e2, e3]) rfl ⟨g, bc', l, rfl, { hrow with row := ownsRow_base hrow.row (by omega), code := fun p hp => ownsRow_base (hrow.code p hp) (by omega) }, HLL.out, HB4.out⟩
end Go.Proofs.YteknhnnlhhgppaaDoor
