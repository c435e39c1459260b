/-
  Contract of the reference (package ontimeref15): the faults of a task.
-/
import Derived.Test.YtnegdmhmhdojbaaDoorRef15d
import Derived.Test.YtnegdmhmhdojbaaDoorChkPlains
namespace Go.Proofs.YtnegdmhmhdojbaaDoor
set_option linter.unusedVariables false
set_option linter.unusedSimpArgs false
open Go.RowKit
set_option maxRecDepth 100000
set_option maxHeartbeats 16000000

theorem rflt_info : (Tryd.prog.info? 35).map (fun i => (i.zero, i.size, i.bytes)) = some (some (.agg #[.int .i64 0, .slice none 0 0, .int .i64 0, .string ⟨#[]⟩]), 4, 56) := by kernel_rfl
/-- the reference's faults, in rows of the call's own -/
structure RF (B : Nat) (w : World) (v : Value) (L : List FltP) : Prop where
  ro : w.ownsRow B 35 4 v L.length (L.flatMap FltP.cells)
  ri : ∀ f ∈ L, PathV B w f.pv f.flt.path
section
variable {B B' : Nat} {w w6 w9 : World} {v v6 v9 : Value} {L L6 : List FltP}
theorem RF.nil : RF B w (.slice none 0 0) [] := ⟨World.ownsRow_nil _ _ _ _, by simp⟩
theorem RF.keep (h : RF B w v L) (hB : Below w.heap.size w w6) : RF B w6 v L := ⟨own_below h.ro hB, fun f hf => own_below (h.ri f hf) hB⟩
theorem RF.base (h : RF B w v L) (hb : B' ≤ B) : RF B' w v L := ⟨ownsRow_base h.ro hb, fun f hf => ownsRow_base (h.ri f hf) hb⟩
theorem RF.ones (h : RF B w v L) : ∀ u ∈ L.flatMap FltP.cells, u.oneCell' = true := by
  intro u hu
  obtain ⟨f, hf, hu⟩ := List.mem_flatMap.1 hu
  obtain ⟨a, c, e⟩ := own_val (h.ri f hf)
  unfold FltP.cells at hu
  rw [e] at hu
  simp only [List.mem_cons, List.not_mem_nil, or_false] at hu
  rcases hu with rfl | rfl | rfl | rfl <;> rfl
theorem own_beside {B2 : Nat} {e1 e2 : TypeId} {s1 s2 n1 n2 : Nat} {v1 v2 : Value} {xs1 xs2 : List Value} (h1 : w6.ownsRow B e1 s1 v1 n1 xs1) (h2 : w6.ownsRow B2 e2 s2 v2 n2 xs2) (hne : e1 ≠ e2) (hg : w6.grownBy w9 v2.ownBlock) : w9.ownsRow B e1 s1 v1 n1 xs1 := by
  refine own_keep h1 (fun k hk hl => hg.block k hl ?_)
  rcases h1.2 with ⟨rfl, _⟩ | ⟨g', cap', cur, rfl, _, hc, _⟩
  · cases hk
  · have hk : g' = k := by injection hk
    subst hk
    exact fun e => own_other h2 hc hne e.symm
theorem RF.beside {B2 : Nat} {e2 : TypeId} {s2 n2 : Nat} {v2 : Value} {xs2 : List Value} (h : RF B w6 v L) (h2 : w6.ownsRow B2 e2 s2 v2 n2 xs2) (hn1 : 35 ≠ e2) (hn2 : 3 ≠ e2) (hg : w6.grownBy w9 v2.ownBlock) : RF B w9 v L :=
  ⟨own_beside h.ro h2 hn1 hg, fun f hf => own_beside (h.ri f hf) h2 hn2 hg⟩
theorem PRowN.beside {N B2 : Nat} {e2 : TypeId} {s2 n2 : Nat} {v2 : Value} {xs2 : List Value} {P : List (List Int)} {vs : List Value} (h : PRowN N B w6 v P vs) (h2 : w6.ownsRow B2 e2 s2 v2 n2 xs2) (hn1 : 33 ≠ e2) (hn2 : 3 ≠ e2) (hg : w6.grownBy w9 v2.ownBlock) : PRowN N B w9 v P vs :=
  ⟨own_beside h.own h2 hn1 hg, fun i q u hq hu => own_beside (h.each i q u hq hu) h2 hn2 hg⟩
theorem RF.add (h : RF B w v L) (hB : Below w.heap.size w w6) (h6 : ∀ f ∈ L6, PathV B w6 f.pv f.flt.path) (ho : w9.ownsRow B 35 4 v9 (L.length + L6.length) (L.flatMap FltP.cells ++ L6.flatMap FltP.cells)) (hg : w6.grownBy w9 v.ownBlock) : RF B w9 v9 (L ++ L6) := by
  have h1 := h.keep hB
  refine ⟨by rw [List.length_append, List.flatMap_append]; exact ho, fun f hf => ?_⟩
  have key : ∀ {u : Value} {q : List Int}, PathV B w6 u q → PathV B w9 u q := fun {u q} hu => by
    refine own_keep hu (fun k hk hl => hg.block k hl ?_)
    rcases hu.2 with ⟨rfl, _⟩ | ⟨g', cap', cur, rfl, _, hc, _⟩
    · cases hk
    · have hk : g' = k := by injection hk
      subst hk
      exact fun e => own_other h1.ro hc (by decide) e.symm
  rcases List.mem_append.1 hf with hf | hf
  · exact key (h1.ri f hf)
  · exact key (h6 f hf)
end
theorem name_beq2 (a b : ByteArray) : (a.toList == b.toList) = decide (a = b) := by
  by_cases h : a = b
  · subst h; simp
  · rw [str_ne h, decide_eq_false h]
theorem flat_len (L : List FltP) : (flat L).length = L.length := by unfold flat; simp
/-- what the reference finds in the nodes of a body -/
def bodyF (p : Prg) (t : Tsk) (l : List (List Int × Tree)) : List Flt := l.flatMap (fun x => if oneP p t x.1 x.2 = 0 then [] else [Flt.mk x.1 (oneP p t x.1 x.2) x.2.name])
theorem bodyF_append (p : Prg) (t : Tsk) (l m : List (List Int × Tree)) : bodyF p t (l ++ m) = bodyF p t l ++ bodyF p t m := by unfold bodyF; rw [List.flatMap_append]
/-- what the reference finds in a task -/
def tw0 (p : Prg) (i : Nat) (t : Tsk) : List Flt := if memB ((p.tasks.take i).map (·.name)) t.name = true then [Flt.mk [] 8 t.name] else []
def refTaskF (p : Prg) (i : Nat) (t : Tsk) : List Flt := tw0 p i t ++ declF (memB (p.shared.map (·.name))) [] (t.vars ++ t.arrays.map (·.name)) ++ bodyF p t (t.body.items [])

def RunEndV (lo n : Nat) (v : Value) (P : World → Prop) (a a' : Act) (w' : World) : Prop := ∃ l : List Value, l.length = n ∧ a' = { a with tmps := putAll a.tmps lo (l ++ [v]) } ∧ P w'
theorem list16 {α : Type} {l : List α} (h : l.length = 16) : ∃ a0 a1 a2 a3 a4 a5 a6 a7 a8 a9 a10 a11 a12 a13 a14 a15, l = [a0, a1, a2, a3, a4, a5, a6, a7, a8, a9, a10, a11, a12, a13, a14, a15] := by
  match l, h with
  | [a0, a1, a2, a3, a4, a5, a6, a7, a8, a9, a10, a11, a12, a13, a14, a15], _ => exact ⟨a0, a1, a2, a3, a4, a5, a6, a7, a8, a9, a10, a11, a12, a13, a14, a15, rfl⟩
theorem list7 {α : Type} {l : List α} (h : l.length = 7) : ∃ a0 a1 a2 a3 a4 a5 a6, l = [a0, a1, a2, a3, a4, a5, a6] := by
  match l, h with
  | [a0, a1, a2, a3, a4, a5, a6], _ => exact ⟨a0, a1, a2, a3, a4, a5, a6, rfl⟩
theorem list18 {α : Type} {l : List α} (h : l.length = 18) : ∃ a0 a1 a2 a3 a4 a5 a6 a7 a8 a9 a10 a11 a12 a13 a14 a15 a16 a17, l = [a0, a1, a2, a3, a4, a5, a6, a7, a8, a9, a10, a11, a12, a13, a14, a15, a16, a17] := by
  match l, h with
  | [a0, a1, a2, a3, a4, a5, a6, a7, a8, a9, a10, a11, a12, a13, a14, a15, a16, a17], _ => exact ⟨a0, a1, a2, a3, a4, a5, a6, a7, a8, a9, a10, a11, a12, a13, a14, a15, a16, a17, rfl⟩
theorem list6 {α : Type} {l : List α} (h : l.length = 6) : ∃ a0 a1 a2 a3 a4 a5, l = [a0, a1, a2, a3, a4, a5] := by
  match l, h with
  | [a0, a1, a2, a3, a4, a5], _ => exact ⟨a0, a1, a2, a3, a4, a5, rfl⟩
theorem paths15_top (N : Nat) (t : Tree) (w : World) (a : Option Addr) (c : Nat) (hr : Rep w t a) (hN : N ≤ w.heap.size) (hs : t.size ≤ 100000) (hd : t.depth ≤ 10000) :
    Calls Tryd.prog 54 #[t.val a c] w fun e w' => ∃ v vs, e = .returned v ∧ PRowN N w.heap.size w' v (pathsP t []) vs ∧ Below w.heap.size w w' := by
  obtain ⟨W, hW⟩ : ∃ W : World, w.alloc (boxObj t a c) = W := ⟨_, rfl⟩
  have hBW : Below w.heap.size w W := by rw [← hW]; exact mem_alloc _ _
  have hX : W.heap[w.heap.size]? = some (boxObj t a c) := by rw [← hW]; exact mem_new _ _
  have HR := Lib.hid (hr.below hBW)
  have HB0 := Lib.hid hBW
  have HN : Hid (N ≤ W.heap.size) := Nat.le_trans hN hBW.size
  obtain ⟨⟨f0, f1, f2, f3⟩, _⟩ := blk4 hX
  obtain ⟨L, hL⟩ : ∃ L, pathsP t [] = L := ⟨_, rfl⟩
  have HL := Lib.hid hL
  rw [hL]
  clear hr hBW hX hN hL
  go_enter Tryd.func54, Tryd.ntmps54
  go_wp2_with fail
  clear hW f0 f1 f2 f3
  have h9 := paths15_any N t [] (.slice none 0 0) W a c HR.out (World.ownsRow_nil _ _ _ _) HN.out hs (by simpa using hd)
  rw [HL.out] at h9
  refine h9.mono ?_
  clear h9
  rintro e w6 ⟨v6, vs6, rfl, h6, hB6⟩
  have H6 := Lib.hid (h6.base HB0.out.size)
  have HB6 := Lib.hid (mem_then HB0.out hB6)
  obtain ⟨a6, c6, rfl⟩ := own_val h6.own
  clear h6 hB6
  go_wp2_with fail
  go_ret
  exact ⟨_, vs6, rfl, H6.out, HB6.out⟩
theorem own_lecap {w : World} {base : Nat} {e : TypeId} {size : Nat} {a : Option Addr} {n c : Nat} {xs : List Value} (h : w.ownsRow base e size (.slice a n c) n xs) : n ≤ c := by
  rcases h.2 with ⟨h0, rfl⟩ | ⟨g, cap, cur, hv, _, _, h1, _⟩
  · exact Nat.zero_le _
  · injection hv with _ _ hv
    omega
theorem strs_take {w : World} {a : Option Addr} {l : List ByteArray} (h : StrsAt w a l) (k : Nat) : StrsAt w a (l.take k) := by
  refine ⟨by have := h.1; rw [List.length_take]; omega, fun i hi => ?_⟩
  rw [List.length_take] at hi
  obtain ⟨b, off, ha, hc, hz⟩ := h.2 i (by omega)
  have e : (l.take k).getD i ⟨#[]⟩ = l.getD i ⟨#[]⟩ := by
    rw [List.getD_eq_getElem?_getD, List.getD_eq_getElem?_getD, List.getElem?_take_of_lt (by omega)]
  rw [e]
  exact ⟨b, off, ha, hc, hz⟩
theorem path_item {t : Tree} {k : Nat} {q : List Int} (h : (pathsP t [])[k]? = some q) : ∃ u, (t.items [])[k]? = some (q, u) ∧ t.at q = some u := by
  unfold pathsP at h
  rw [List.getElem?_map] at h
  obtain ⟨x, hx, rfl⟩ := Option.map_eq_some_iff.1 h
  exact ⟨x.2, hx, its_at t x (List.mem_of_getElem? hx)⟩

theorem reftask_any (p : Prg) (i : Nat) (t : Tsk) (w : World) (sa ta : Option Addr) (sc tc : Nat) (hp : PrgAt w p sa ta) (hil : i < p.tasks.length) (ht : p.tasks.getD i Tsk.none = t) (hok : prgOk p = true) :
    Calls Tryd.prog 52 #[p.val sa sc ta tc, .int .i64 (i : Int)] w fun e w' => ∃ v L, e = .returned v ∧ RF w.heap.size w' v L ∧ flat L = (refTaskF p i t).map (TFlt.mk (i : Int)) ∧ Below w.heap.size w w' := by
  have hsl := hp.1.1
  have htl := hp.2.1
  obtain ⟨ri, hri, rz0, rz1, rz2⟩ := info_parts rflt_info
  obtain ⟨ti, hti, hz0, hz1, hz2⟩ := info_parts strs_info
  obtain ⟨tb, tf, q, rfl, hc, hin⟩ := hp.2.2 i hil
  rw [ht] at hc hin
  obtain ⟨⟨g0, g1, g2, g3, g4, g5, g6, g7⟩, _⟩ := tsk_cells (Below.refl _ _) hc
  obtain ⟨A1, hA1⟩ : ∃ A1 : World, w.alloc (prgObj p sa sc (some ⟨tb, tf, none⟩) tc) = A1 := ⟨_, rfl⟩
  have hB1 : Below w.heap.size w A1 := by rw [← hA1]; exact mem_alloc _ _
  have hX1 : A1.heap[w.heap.size]? = some (prgObj p sa sc (some ⟨tb, tf, none⟩) tc) := by rw [← hA1]; exact mem_new _ _
  obtain ⟨W, hW⟩ : ∃ W : World, A1.alloc (tskObj t q) = W := ⟨_, rfl⟩
  have hB2 : Below A1.heap.size A1 W := by rw [← hW]; exact mem_alloc _ _
  have hX2 : W.heap[A1.heap.size]? = some (tskObj t q) := by rw [← hW]; exact mem_new _ _
  have HBW := Lib.hid (mem_then hB1 hB2)
  have hx := mem_keep hX1 hB2
  have HK : Hid (∀ w', Below W.heap.size W w' → Below w.heap.size w w' ∧ w'.cell? ⟨w.heap.size, 0, none⟩ = some (.slice sa p.shared.length sc) ∧ w'.cell? ⟨w.heap.size, 1, none⟩ = some (.slice (some ⟨tb, tf, none⟩) p.tasks.length tc) ∧ w'.heap[A1.heap.size]? = some (tskObj t q) ∧ PrgAt w' p sa (some ⟨tb, tf, none⟩) ∧ TskIn w' t q) := fun w' h => by
    have hb := HBW.out.trans (h.mono HBW.out.size)
    exact ⟨hb, mem_cell (mem_keep hx h) 0, mem_cell (mem_keep hx h) 1, mem_keep hX2 h, hp.below hb, hin.below hb⟩
  have g0' := cell_below hB1 g0
  have g1' := cell_below hB1 g1
  have g2' := cell_below hB1 g2
  have g3' := cell_below hB1 g3
  have g4' := cell_below hB1 g4
  have g5' := cell_below hB1 g5
  have g6' := cell_below hB1 g6
  have g7' := cell_below hB1 g7
  have y1 := mem_cell hX1 1
  simp only [List.getElem?_toArray, List.getElem?_cons_zero, List.getElem?_cons_succ] at y1
  have HOK := Lib.hid (prgOk_le hok)
  have HT := Lib.hid ht
  have HLT : Hid (w.heap.size < A1.heap.size ∧ A1.heap.size < W.heap.size) := ⟨mem_lt hX1, mem_lt hX2⟩
  have HTK : Hid (tskOk t = true) := by show _ = _; rw [← ht]; exact (prgOk_le hok).2.2 i hil
  have hi0 : (0 : Int) ≤ (i : Int) := by omega
  have hi2 : (i : Int) < (p.tasks.length : Int) := by omega
  obtain ⟨RL, hRL⟩ : ∃ RL, refTaskF p i t = RL := ⟨_, rfl⟩
  rw [hRL]
  have HRL := Lib.hid hRL
  clear hRL hp hc hin g0 g1 g2 g3 g4 g5 g6 g7 hx hX1 hX2 hB1 hB2 ht hok
  go_enter Tryd.func52, Tryd.ntmps52
  go_wp2_with fail
  clear hA1 hW g0' g1' g2' g3' g4' g5' g6' g7' y1
  go_loopw [7, 8] (fun u iv wr => ∃ j : Nat, j ≤ i ∧ iv = .int .i64 (j : Int) ∧ u = .bool (memB ((p.tasks.take j).map (·.name)) t.name) ∧ Below W.heap.size W wr) (fun _ iv _ => i - (intOf iv).toNat)
  case atStart => exact ⟨0, Nat.zero_le _, rfl, rfl, Below.refl _ _⟩
  case round =>
    obtain ⟨j, hj, rfl, rfl, hBr⟩ := hrel
    have HBR := Lib.hid hBr
    have hj0 : (0 : Int) ≤ (j : Int) := by omega
    obtain ⟨_, y0, y1, hxt, hpr, hit⟩ := HK.out wr hBr
    have x0 := mem_cell hxt 0
    simp only [Tsk.cells, List.getElem?_toArray, List.getElem?_cons_zero, List.getElem?_cons_succ] at x0
    clear hBr
    by_cases hlt : j < i
    ·
      have hlt2 : (j : Int) < (i : Int) := by omega
      have hlt3 : (j : Int) < (p.tasks.length : Int) := by omega
      obtain ⟨b1, o1, q1, ha1, hc1, _⟩ := hpr.2.2 j (by omega)
      cases ha1
      obtain ⟨t1, ht1⟩ : ∃ t, p.tasks.getD j Tsk.none = t := ⟨_, rfl⟩
      have HNX : Hid (memB ((p.tasks.take (j + 1)).map (·.name)) t.name = (memB ((p.tasks.take j).map (·.name)) t.name || decide (t1.name = t.name))) := by
        show _ = _
        rw [take_more (d := Tsk.none) (by omega), List.map_append, ht1]
        exact memB_snoc _ _ _
      rw [ht1] at hc1
      obtain ⟨⟨g0, _⟩, _⟩ := tsk_cells (Below.refl _ _) hc1
      obtain ⟨tw, htw⟩ : ∃ tw, memB ((p.tasks.take j).map (·.name)) t.name = tw := ⟨_, rfl⟩
      rw [htw] at HNX ⊢
      clear hc1 hpr hxt hit ht1 htw
      cases tw with
      | true =>
        go_wp2_with fail
        go_region
        go_wp2_with fail
        go_roundw
        case rel => exact ⟨j + 1, by omega, by go_num, by rw [HNX.out]; rfl, HBR.out.drew⟩
        case measure => simp [intOf]; omega
      | false =>
        go_wp2_with fail
        go_region
        go_wp2_with fail
        go_roundw
        case rel => exact ⟨j + 1, by omega, by go_num, by rw [HNX.out, name_beq2]; rfl, HBR.out.drew⟩
        case measure => simp [intOf]; omega
    · obtain rfl : j = i := by omega
      obtain ⟨tw, htw⟩ : ∃ tw, memB ((p.tasks.take j).map (·.name)) t.name = tw := ⟨_, rfl⟩
      rw [htw]
      have HTW : Hid (tw0 p j t = if tw = true then [Flt.mk [] 8 t.name] else []) := by show _ = _; unfold tw0; rw [htw]
      obtain ⟨w3, hw3⟩ : ∃ w3 : World, w3 = wr := ⟨_, rfl⟩
      rw [← hw3] at HBR x0 y0 y1 ⊢
      clear hxt hpr hit htw hw3 hlt
      go_upto_if 37 with fail
      go_cut [5] from 38 to 44 (fun s w' => ∃ L, RF W.heap.size w' s L ∧ flat L = (tw0 p j t).map (TFlt.mk (j : Int)) ∧ Below W.heap.size W w')
      case first =>
        cases tw with
        | true =>
          go_wp2_with (at_builtin; refine wpList_append_src _ rfl (.tmp 38) (.tmp 43) 31 rfl W.heap.size 35 ri _ 4 56 Tryd.underlying31 hri rz0 rz1 rz2 rfl (by decide) (.slice none 0 0) 0 [] rfl (World.ownsRow_nil _ _ _ _) (some ⟨w3.heap.size, 0, none⟩) 1 1 [.int .i64 (j : Int), .slice none 0 0, .int .i64 8, .string t.name] rfl (one_src (cs := [.int .i64 (j : Int), .slice none 0 0, .int .i64 8, .string t.name]) (n := 1) (mem_new _ _) rfl) (by simp [Value.oneCell']) (by unfold maxLen; omega) (by omega) (by have := HBR.out.size; simp; omega) ?_)
          intro v9 w9 hown9 hgrow9 _
          have HRF := Lib.hid (RF.add (L6 := [⟨(j : Int), ⟨[], 8, t.name⟩, .slice none 0 0⟩]) (RF.nil (B := W.heap.size) (w := w3)) (mem_alloc _ _) (fun f hf => by obtain rfl := List.mem_singleton.1 hf; exact World.ownsRow_nil _ _ _ _) hown9 hgrow9)
          have HB9 := Lib.hid ((mem_then HBR.out (mem_alloc w3 _)).grown hgrow9 (mem_then HBR.out (mem_alloc w3 _)).size (fun b hb => by cases hb))
          clear hown9 hgrow9
          go_wp2_with fail
          go_meet
          exact ⟨_, HRF.out, by rw [HTW.out]; rfl, HB9.out⟩
        | false =>
          go_wp2_with fail
          go_meet
          exact ⟨[], RF.nil, by rw [HTW.out]; rfl, HBR.out⟩
      obtain ⟨L0, hL0, hF0, hBc⟩ := hcut
      obtain ⟨w4, hw4⟩ : ∃ w4 : World, w4 = wc := ⟨_, rfl⟩
      rw [← hw4] at hL0 hBc ⊢
      obtain ⟨v0, c0, rfl⟩ := own_val hL0.ro
      have HL0 := Lib.hid hL0
      have HF0 := Lib.hid hF0
      have HB4 := Lib.hid hBc
      have HN0 : Hid (L0.length ≤ 1) := by
        have h := congrArg List.length hF0
        rw [flat_len, List.length_map] at h
        show _ ≤ _
        rw [h]; unfold tw0; split <;> simp
      clear hw4 hL0 hF0 hBc x0 y0 y1
      obtain ⟨_, _, _, hxt, _, hit⟩ := HK.out w4 HB4.out
      have x2 := mem_cell hxt 2
      have x3 := mem_cell hxt 3
      simp only [Tsk.cells, List.getElem?_toArray, List.getElem?_cons_zero, List.getElem?_cons_succ] at x2 x3
      have HIT := Lib.hid hit
      have hAlt : A1.heap.size < w4.heap.size := by have := HB4.out.size; have := HLT.out.2; omega
      have HVL : Hid (t.vars.length ≤ 12 ∧ t.arrays.length ≤ 4 ∧ t.body.size ≤ 400) := tskOk_le HTK.out
      have hvl12 := HVL.out.1
      have hal4 := HVL.out.2.1
      have HMADE : Hid ((w4.alloc (.cells #[] 9)).ownsRow w4.heap.size 9 1 (.slice (some ⟨w4.heap.size, 0, none⟩) 0 0) 0 []) := World.ownsRow_made _ #[] 0 (Nat.le_refl _) (by unfold maxLen; omega) rfl
      clear hxt hit
      go_wp2_with (at_builtin; refine wpList_append_src _ rfl (.tmp 45) (.tmp 47) 40 rfl w4.heap.size 9 ti _ 1 16 Tryd.underlying40 hti hz0 hz1 hz2 rfl (by decide) (.slice (some ⟨w4.heap.size, 0, none⟩) 0 0) 0 [] rfl HMADE.out q.va t.vars.length q.vc (t.vars.map Value.string) rfl ((HIT.out.vars.below (mem_alloc _ _)).src) strs_ones (by unfold maxLen; omega) (by omega) (by simp) ?_)
      intro v5 w5 hown5 hgrow5 _
      have hB5 : Below w4.heap.size w4 w5 := (mem_alloc w4 _).grown hgrow5 (by simp) (fun b hb => by cases hb; exact Nat.le_refl _)
      have HOWN5 : Hid (w5.ownsRow W.heap.size 9 1 v5 t.vars.length (t.vars.map Value.string)) := ownsRow_base hown5 HB4.out.size
      have HL5 := Lib.hid (HL0.out.keep hB5)
      have HB5 := Lib.hid (mem_then HB4.out hB5)
      obtain ⟨va5, vc5, rfl⟩ := own_val hown5
      clear hown5 hgrow5 hB5 x2 x3
      obtain ⟨_, _, _, hxt, _, _⟩ := HK.out w5 HB5.out
      have x3 := mem_cell hxt 3
      simp only [Tsk.cells, List.getElem?_toArray, List.getElem?_cons_zero, List.getElem?_cons_succ] at x3
      clear hxt
      go_wp2_with fail
      clear x3
      go_loopw [9, 10] (fun v iv wr => ∃ (k : Nat) (m : List ByteArray), k ≤ t.arrays.length ∧ iv = .int .i64 (k : Int) ∧ m = t.vars ++ (t.arrays.take k).map (·.name) ∧ wr.ownsRow W.heap.size 9 1 v m.length (m.map Value.string) ∧ RF W.heap.size wr (.slice v0 L0.length c0) L0 ∧ Below W.heap.size W wr) (fun _ iv _ => t.arrays.length - (intOf iv).toNat)
      case atStart => exact ⟨0, t.vars, Nat.zero_le _, rfl, by simp, HOWN5.out, HL5.out, HB5.out⟩
      case round =>
        obtain ⟨k, m, hk, rfl, hm, hown, hrf, hBr⟩ := hrel
        have HM := Lib.hid hm
        have HOWN := Lib.hid hown
        have HRF := Lib.hid hrf
        have HBK := Lib.hid hBr
        have hk0 : (0 : Int) ≤ (k : Int) := by omega
        have hml : m.length = t.vars.length + k := by rw [hm, List.length_append, List.length_map, List.length_take]; omega
        have HML := Lib.hid hml
        obtain ⟨_, y0, y1, hxt, _, hit⟩ := HK.out wr hBr
        have x3 := mem_cell hxt 3
        simp only [Tsk.cells, List.getElem?_toArray, List.getElem?_cons_zero, List.getElem?_cons_succ] at x3
        obtain ⟨va, vc, rfl⟩ := own_val hown
        clear hm hown hrf hBr hml y0 y1
        by_cases hlk : k < t.arrays.length
        ·
          have hlk2 : (k : Int) < (t.arrays.length : Int) := by omega
          obtain ⟨ab, ao, haa, hnm, _⟩ := hit.arrays.2 k hlk
          obtain ⟨x, hx⟩ : ∃ x, (t.arrays.getD k Arr.none).name = x := ⟨_, rfl⟩
          rw [hx] at hnm
          have HNX : Hid (t.vars ++ (t.arrays.take (k + 1)).map (·.name) = m ++ [x]) := by
            show _ = _
            rw [HM.out, take_more (d := Arr.none) hlk, List.map_append, ← List.append_assoc, List.map_cons, List.map_nil, hx]
          obtain ⟨n, hn⟩ : ∃ n, m.length = n := ⟨_, rfl⟩
          have HNN := Lib.hid hn
          have hnl : n ≤ 100 := by have := HML.out; omega
          have HOWN2 : Hid (wr.ownsRow W.heap.size 9 1 (.slice va n vc) n (m.map Value.string)) := by show World.ownsRow _ _ _ _ _ _ _; rw [← hn]; exact HOWN.out
          rw [haa] at x3
          rw [hn]
          clear hn hxt hit hx haa
          go_wp2_with (at_builtin; refine wpList_append_src _ rfl (.tmp 56) (.tmp 63) 40 rfl W.heap.size 9 ti _ 1 16 Tryd.underlying40 hti hz0 hz1 hz2 rfl (by decide) (.slice va n vc) n (m.map Value.string) rfl (own_below HOWN2.out (mem_alloc _ _)) (some ⟨wr.heap.size, 0, none⟩) 1 1 [.string x] rfl (one_src (cs := [.string x]) (n := 1) (mem_new _ _) rfl) (by simp [Value.oneCell']) (by unfold maxLen; omega) (by omega) (by have := HBK.out.size; simp; omega) ?_)
          intro v9 w9 hown9 hgrow9 _
          have hRF9 := (HRF.out.keep (mem_alloc wr (.cells #[.string x] 9))).beside (own_below HOWN2.out (mem_alloc _ _)) (by decide) (by decide) hgrow9
          have HRF9 := Lib.hid hRF9
          have HB9 := Lib.hid ((mem_then HBK.out (mem_alloc wr _)).grown hgrow9 (mem_then HBK.out (mem_alloc wr _)).size (fun b hb => (own_lt HOWN2.out hb).1))
          have HOWN9 : Hid (w9.ownsRow W.heap.size 9 1 v9 (m ++ [x]).length ((m ++ [x]).map Value.string)) := by
            show World.ownsRow _ _ _ _ _ _ _
            rw [List.length_append, List.map_append, HNN.out]
            exact hown9
          clear hown9 hgrow9 hRF9 x3
          go_wp2_with fail
          go_roundw
          case rel =>
            exact ⟨k + 1, m ++ [x], by omega, by go_num, HNX.out.symm, HOWN9.out, HRF9.out, HB9.out⟩
          case measure => simp [intOf]; omega
        · obtain rfl : k = t.arrays.length := by omega
          have HMM : Hid (m = t.vars ++ t.arrays.map (·.name)) := by show _ = _; rw [HM.out, List.take_length]
          have HMS : Hid (∀ s ∈ m, s.size ≤ 9223372036854775807) := fun s hs => by
            rw [HMM.out] at hs
            rcases List.mem_append.1 hs with hs | hs
            · exact HIT.out.vars.sizes s hs
            · obtain ⟨x, hx, rfl⟩ := List.mem_map.1 hs
              exact (HIT.out.arrays.sizes x hx).1
          have hml : m.length ≤ 16 := by have := HML.out; omega
          clear hxt hit
          go_wp2_with fail
          clear x3
          go_loopw [5, 11] (fun v iv wq => ∃ (k : Nat) (L : List FltP), k ≤ m.length ∧ iv = .int .i64 (k : Int) ∧ RF W.heap.size wq v L ∧ flat L = (tw0 p j t ++ declF (memB (p.shared.map (·.name))) [] (m.take k)).map (TFlt.mk (j : Int)) ∧ wq.ownsRow W.heap.size 9 1 (.slice va m.length vc) m.length (m.map Value.string) ∧ L.length ≤ 1 + k ∧ Below W.heap.size W wq) (fun _ iv _ => m.length - (intOf iv).toNat)
          case atStart => exact ⟨0, L0, Nat.zero_le _, rfl, HRF.out, by rw [HF0.out, List.take_zero, declF, List.append_nil], HOWN.out, HN0.out, HBK.out⟩
          case round =>
            obtain ⟨k, L, hk, rfl, hrf, hfl, hown, hll, hBr⟩ := hrel
            have HRF := Lib.hid hrf
            have HFL := Lib.hid hfl
            have HOWN := Lib.hid hown
            have HBK := Lib.hid hBr
            have hk0 : (0 : Int) ≤ (k : Int) := by omega
            obtain ⟨v1, c1, rfl⟩ := own_val hrf.ro
            obtain ⟨_, y0, y1, hxt, hpr, hit⟩ := HK.out wr hBr
            clear hrf hfl hBr y1
            by_cases hlk : k < m.length
            ·
              have hlk2 : (k : Int) < (m.length : Int) := by omega
              have hvcap : k ≤ vc := by have := own_lecap hown; omega
              have hvcap2 : (k : Int) ≤ (vc : Int) := by omega
              obtain ⟨nb, rfl, _, _⟩ := own_at hown (by omega)
              obtain ⟨x, hx⟩ : ∃ x, m.getD k ⟨#[]⟩ = x := ⟨_, rfl⟩
              have HNM : Hid (∀ w', Below wr.heap.size wr w' → w'.cell? ⟨nb, k, none⟩ = some (.string x) ∧ w'.cell? ⟨w.heap.size, 0, none⟩ = some (.slice sa p.shared.length sc)) := fun w' h => by
                refine ⟨cell_below h (own_get hown ?_), cell_below h y0⟩
                rw [List.getElem?_map, getD_of (d := ⟨#[]⟩) hlk, hx]
                rfl
              have HNX : Hid (tw0 p j t ++ declF (memB (p.shared.map (·.name))) [] (m.take (k + 1)) = (tw0 p j t ++ declF (memB (p.shared.map (·.name))) [] (m.take k)) ++ (if (memB (p.shared.map (·.name)) x || memB (m.take k) x) = true then [Flt.mk [] 8 x] else [])) := by
                show _ = _
                rw [take_more (d := ⟨#[]⟩) hlk, declF_snoc, hx, List.append_assoc, List.nil_append]
              have HSTR : Hid (StrsAt wr (some ⟨nb, 0, none⟩) (m.take k)) := strs_take (strs_own hown HMS.out) k
              have htk : (m.take k).length = k := by rw [List.length_take]; omega
              have HTKL := Lib.hid htk
              have HPRS := Lib.hid hpr.1
              clear hown hpr hit hxt y0 hx htk
              go_wp2_with fail
              obtain ⟨dd, hdd⟩ : ∃ dd, memB (p.shared.map (·.name)) x = dd := ⟨_, rfl⟩
              obtain ⟨ii, hii⟩ : ∃ ii, memB (m.take k) x = ii := ⟨_, rfl⟩
              have HDD : Hid (∀ w', Below wr.heap.size wr w' → Calls Tryd.prog 51 #[.slice sa p.shared.length sc, .string x] w' fun e w'' => e = .returned (.bool dd) ∧ Below w'.heap.size w' w'') := fun w' h => by
                rw [← hdd]
                exact declared_any p.shared x w' sa sc (HPRS.out.below h)
              have HII : Hid (∀ w', Below wr.heap.size wr w' → Calls Tryd.prog 56 #[.slice (some ⟨nb, 0, none⟩) k vc, .string x] w' fun e w'' => e = .returned (.bool ii) ∧ Below w'.heap.size w' w'') := fun w' h => by
                have h9 := in15_any (m.take k) x w' (some ⟨nb, 0, none⟩) vc (HSTR.out.below h)
                rw [HTKL.out, hii] at h9
                exact h9
              rw [hdd, hii] at HNX
              clear hdd hii
              refine cut_runA (RunEndV 71 16 (.bool (dd || ii)) (fun w' => Below wr.heap.size wr w')) ?_ ?_
              · refine wp_region_held_drew (S := fun w' => Below wr.heap.size wr w') (by kernel_rfl) ((Below.refl _ _).drew) (fun hHeld => ?_)
                generalize hwd : World.drew _ = v0 at hHeld ⊢
                clear hwd
                refine wpAnyH_take (i := 0) (v := .pointer (some ⟨w.heap.size, 0, none⟩)) rfl (by kernel_rfl) (by kernel_rfl) (by kernel_rfl) (fun _ _ _ h => h) (Or.inl ⟨by rfl, ?_⟩) (by assumption) ?_
                · intro w' hSw; go_simp
                (try simp only [Act.put, List.getElem_toArray, List.getElem_cons_zero, List.setIfInBounds_toArray, List.set_cons_zero, List.set_cons_succ])
                refine wpAnyH_take (i := 1) (v := .slice sa p.shared.length sc) rfl (by kernel_rfl) (by kernel_rfl) (by kernel_rfl) (fun _ _ _ h => h) (Or.inl ⟨by rfl, ?_⟩) (by assumption) ?_
                · intro w' hSw; obtain ⟨c0, c1⟩ := HNM.out _ hSw; go_simp
                (try simp only [Act.put, List.getElem_toArray, List.getElem_cons_zero, List.getElem_cons_succ, List.setIfInBounds_toArray, List.set_cons_zero, List.set_cons_succ])
                refine wpAnyH_take (i := 2) (v := .slice (some ⟨nb, 0, none⟩) m.length vc) rfl (by kernel_rfl) (by kernel_rfl) (by kernel_rfl) (fun _ _ _ h => h) (Or.inl ⟨by rfl, ?_⟩) (by assumption) ?_
                · intro w' hSw; go_simp
                (try simp only [Act.put, List.getElem_toArray, List.getElem_cons_zero, List.getElem_cons_succ, List.setIfInBounds_toArray, List.set_cons_zero, List.set_cons_succ])
                refine wpAnyH_take (i := 3) (v := .int .i64 (k : Int)) rfl (by kernel_rfl) (by kernel_rfl) (by kernel_rfl) (fun _ _ _ h => h) (Or.inl ⟨by rfl, ?_⟩) (by assumption) ?_
                · intro w' hSw; go_simp
                (try simp only [Act.put, List.getElem_toArray, List.getElem_cons_zero, List.getElem_cons_succ, List.setIfInBounds_toArray, List.set_cons_zero, List.set_cons_succ])
                refine wpAnyH_take (i := 4) (v := .pointer (some ⟨nb, k, none⟩)) rfl (by kernel_rfl) (by kernel_rfl) (by kernel_rfl) (fun _ _ _ h => h) (Or.inl ⟨by rfl, ?_⟩) (by assumption) ?_
                · intro w' hSw; go_simp
                (try simp only [Act.put, List.getElem_toArray, List.getElem_cons_zero, List.getElem_cons_succ, List.setIfInBounds_toArray, List.set_cons_zero, List.set_cons_succ])
                refine wpAnyH_take (i := 5) (v := .string x) rfl (by kernel_rfl) (by kernel_rfl) (by kernel_rfl) (fun _ _ _ h => h) (Or.inl ⟨by rfl, ?_⟩) (by assumption) ?_
                · intro w' hSw; obtain ⟨c0, c1⟩ := HNM.out _ hSw; go_simp
                (try simp only [Act.put, List.getElem_toArray, List.getElem_cons_zero, List.getElem_cons_succ, List.setIfInBounds_toArray, List.set_cons_zero, List.set_cons_succ])
                refine wpAnyH_ready (rs := [6]) (by kernel_rfl) (by simp) (AllReadyH.cons rfl (fun K hK => ?_) AllReadyH.nil)
                go_simp
                have h9 := HDD.out v0 hHeld
                refine h9.mono ?_
                clear h9
                rintro e w6 ⟨rfl, hB6⟩
                have HB6 := Lib.hid (mem_then hHeld hB6)
                clear hB6
                refine hK.out _ _ (HB6.out) (fun hHeld => ?_)
                clear hK K
                rename_i hOld
                clear hOld
                (try simp only [Act.put, List.getElem_toArray, List.getElem_cons_zero, List.getElem_cons_succ, List.setIfInBounds_toArray, List.set_cons_zero, List.set_cons_succ])
                cases dd with
                | true =>
                  refine wpAnyH_take (i := 7) (v := .bool true) rfl (by kernel_rfl) (by kernel_rfl) (by kernel_rfl) (fun _ _ _ h => h) (Or.inl ⟨by rfl, ?_⟩) (by assumption) ?_
                  · intro w' hSw; go_simp
                  (try simp only [Act.put, List.getElem_toArray, List.getElem_cons_zero, List.getElem_cons_succ, List.setIfInBounds_toArray, List.set_cons_zero, List.set_cons_succ])
                  refine wpAnyH_take (i := 8) (v := undef) rfl (by kernel_rfl) (by kernel_rfl) (by kernel_rfl) (fun _ _ _ h => h) (Or.inr ⟨by rfl, rfl⟩) (by assumption) ?_
                  (try simp only [Act.put, List.getElem_toArray, List.getElem_cons_zero, List.getElem_cons_succ, List.setIfInBounds_toArray, List.set_cons_zero, List.set_cons_succ])
                  refine wpAnyH_take (i := 9) (v := undef) rfl (by kernel_rfl) (by kernel_rfl) (by kernel_rfl) (fun _ _ _ h => h) (Or.inr ⟨by rfl, rfl⟩) (by assumption) ?_
                  (try simp only [Act.put, List.getElem_toArray, List.getElem_cons_zero, List.getElem_cons_succ, List.setIfInBounds_toArray, List.set_cons_zero, List.set_cons_succ])
                  refine wpAnyH_take (i := 10) (v := undef) rfl (by kernel_rfl) (by kernel_rfl) (by kernel_rfl) (fun _ _ _ h => h) (Or.inr ⟨by rfl, rfl⟩) (by assumption) ?_
                  (try simp only [Act.put, List.getElem_toArray, List.getElem_cons_zero, List.getElem_cons_succ, List.setIfInBounds_toArray, List.set_cons_zero, List.set_cons_succ])
                  refine wpAnyH_take (i := 11) (v := undef) rfl (by kernel_rfl) (by kernel_rfl) (by kernel_rfl) (fun _ _ _ h => h) (Or.inr ⟨by rfl, rfl⟩) (by assumption) ?_
                  (try simp only [Act.put, List.getElem_toArray, List.getElem_cons_zero, List.getElem_cons_succ, List.setIfInBounds_toArray, List.set_cons_zero, List.set_cons_succ])
                  refine wpAnyH_take (i := 12) (v := undef) rfl (by kernel_rfl) (by kernel_rfl) (by kernel_rfl) (fun _ _ _ h => h) (Or.inr ⟨by rfl, rfl⟩) (by assumption) ?_
                  (try simp only [Act.put, List.getElem_toArray, List.getElem_cons_zero, List.getElem_cons_succ, List.setIfInBounds_toArray, List.set_cons_zero, List.set_cons_succ])
                  refine wpAnyH_take (i := 13) (v := undef) rfl (by kernel_rfl) (by kernel_rfl) (by kernel_rfl) (fun _ _ _ h => h) (Or.inr ⟨by rfl, rfl⟩) (by assumption) ?_
                  (try simp only [Act.put, List.getElem_toArray, List.getElem_cons_zero, List.getElem_cons_succ, List.setIfInBounds_toArray, List.set_cons_zero, List.set_cons_succ])
                  refine wpAnyH_take (i := 14) (v := undef) rfl (by kernel_rfl) (by kernel_rfl) (by kernel_rfl) (fun _ _ _ h => h) (Or.inr ⟨by rfl, rfl⟩) (by assumption) ?_
                  (try simp only [Act.put, List.getElem_toArray, List.getElem_cons_zero, List.getElem_cons_succ, List.setIfInBounds_toArray, List.set_cons_zero, List.set_cons_succ])
                  refine wpAnyH_take (i := 15) (v := undef) rfl (by kernel_rfl) (by kernel_rfl) (by kernel_rfl) (fun _ _ _ h => h) (Or.inr ⟨by rfl, rfl⟩) (by assumption) ?_
                  (try simp only [Act.put, List.getElem_toArray, List.getElem_cons_zero, List.getElem_cons_succ, List.setIfInBounds_toArray, List.set_cons_zero, List.set_cons_succ])
                  refine wpAnyH_ready (rs := [16]) (by kernel_rfl) (by simp) (AllReadyH.cons rfl (fun K hK => ?_) AllReadyH.nil)
                  go_simp
                  refine hK.out _ _ (HB6.out) (fun hHeld => ?_)
                  clear hK K
                  rename_i hOld
                  clear hOld
                  (try simp only [Act.put, List.getElem_toArray, List.getElem_cons_zero, List.getElem_cons_succ, List.setIfInBounds_toArray, List.set_cons_zero, List.set_cons_succ])
                  refine wpAnyH_done (by kernel_rfl) ?_ _
                  exact ⟨[_, _, _, _, _, _, _, _, _, _, _, _, _, _, _, _], rfl, (by simp only [List.cons_append, List.nil_append, putAll, List.setIfInBounds_toArray, List.set_cons_zero, List.set_cons_succ]; rfl), HB6.out⟩
                | false =>
                  refine wpAnyH_take (i := 7) (v := .bool false) rfl (by kernel_rfl) (by kernel_rfl) (by kernel_rfl) (fun _ _ _ h => h) (Or.inl ⟨by rfl, ?_⟩) (by assumption) ?_
                  · intro w' hSw; go_simp
                  (try simp only [Act.put, List.getElem_toArray, List.getElem_cons_zero, List.getElem_cons_succ, List.setIfInBounds_toArray, List.set_cons_zero, List.set_cons_succ])
                  refine wpAnyH_take (i := 8) (v := .slice (some ⟨nb, 0, none⟩) m.length vc) rfl (by kernel_rfl) (by kernel_rfl) (by kernel_rfl) (fun _ _ _ h => h) (Or.inl ⟨by rfl, ?_⟩) (by assumption) ?_
                  · intro w' hSw; go_simp
                  (try simp only [Act.put, List.getElem_toArray, List.getElem_cons_zero, List.getElem_cons_succ, List.setIfInBounds_toArray, List.set_cons_zero, List.set_cons_succ])
                  refine wpAnyH_take (i := 9) (v := .int .i64 (k : Int)) rfl (by kernel_rfl) (by kernel_rfl) (by kernel_rfl) (fun _ _ _ h => h) (Or.inl ⟨by rfl, ?_⟩) (by assumption) ?_
                  · intro w' hSw; go_simp
                  (try simp only [Act.put, List.getElem_toArray, List.getElem_cons_zero, List.getElem_cons_succ, List.setIfInBounds_toArray, List.set_cons_zero, List.set_cons_succ])
                  refine wpAnyH_take (i := 10) (v := .slice (some ⟨nb, 0, none⟩) k vc) rfl (by kernel_rfl) (by kernel_rfl) (by kernel_rfl) (fun _ _ _ h => h) (Or.inl ⟨by rfl, ?_⟩) (by assumption) ?_
                  · intro w' hSw; go_simp
                  (try simp only [Act.put, List.getElem_toArray, List.getElem_cons_zero, List.getElem_cons_succ, List.setIfInBounds_toArray, List.set_cons_zero, List.set_cons_succ])
                  refine wpAnyH_take (i := 11) (v := .slice (some ⟨nb, 0, none⟩) m.length vc) rfl (by kernel_rfl) (by kernel_rfl) (by kernel_rfl) (fun _ _ _ h => h) (Or.inl ⟨by rfl, ?_⟩) (by assumption) ?_
                  · intro w' hSw; go_simp
                  (try simp only [Act.put, List.getElem_toArray, List.getElem_cons_zero, List.getElem_cons_succ, List.setIfInBounds_toArray, List.set_cons_zero, List.set_cons_succ])
                  refine wpAnyH_take (i := 12) (v := .int .i64 (k : Int)) rfl (by kernel_rfl) (by kernel_rfl) (by kernel_rfl) (fun _ _ _ h => h) (Or.inl ⟨by rfl, ?_⟩) (by assumption) ?_
                  · intro w' hSw; go_simp
                  (try simp only [Act.put, List.getElem_toArray, List.getElem_cons_zero, List.getElem_cons_succ, List.setIfInBounds_toArray, List.set_cons_zero, List.set_cons_succ])
                  refine wpAnyH_take (i := 13) (v := .pointer (some ⟨nb, k, none⟩)) rfl (by kernel_rfl) (by kernel_rfl) (by kernel_rfl) (fun _ _ _ h => h) (Or.inl ⟨by rfl, ?_⟩) (by assumption) ?_
                  · intro w' hSw; go_simp
                  (try simp only [Act.put, List.getElem_toArray, List.getElem_cons_zero, List.getElem_cons_succ, List.setIfInBounds_toArray, List.set_cons_zero, List.set_cons_succ])
                  refine wpAnyH_take (i := 14) (v := .string x) rfl (by kernel_rfl) (by kernel_rfl) (by kernel_rfl) (fun _ _ _ h => h) (Or.inl ⟨by rfl, ?_⟩) (by assumption) ?_
                  · intro w' hSw; obtain ⟨c0, c1⟩ := HNM.out _ hSw; go_simp
                  (try simp only [Act.put, List.getElem_toArray, List.getElem_cons_zero, List.getElem_cons_succ, List.setIfInBounds_toArray, List.set_cons_zero, List.set_cons_succ])
                  refine wpAnyH_ready (rs := [15]) (by kernel_rfl) (by simp) (AllReadyH.cons rfl (fun K hK => ?_) AllReadyH.nil)
                  go_simp
                  have h9 := HII.out w6 HB6.out
                  refine h9.mono ?_
                  clear h9
                  rintro e w7 ⟨rfl, hB7⟩
                  have HB7 := Lib.hid (mem_then HB6.out hB7)
                  clear hB7
                  refine hK.out _ _ (HB7.out) (fun hHeld => ?_)
                  clear hK K
                  rename_i hOld
                  clear hOld
                  (try simp only [Act.put, List.getElem_toArray, List.getElem_cons_zero, List.getElem_cons_succ, List.setIfInBounds_toArray, List.set_cons_zero, List.set_cons_succ])
                  refine wpAnyH_ready (rs := [16]) (by kernel_rfl) (by simp) (AllReadyH.cons rfl (fun K hK => ?_) AllReadyH.nil)
                  go_simp
                  refine hK.out _ _ (HB7.out) (fun hHeld => ?_)
                  clear hK K
                  rename_i hOld
                  clear hOld
                  (try simp only [Act.put, List.getElem_toArray, List.getElem_cons_zero, List.getElem_cons_succ, List.setIfInBounds_toArray, List.set_cons_zero, List.set_cons_succ])
                  refine wpAnyH_done (by kernel_rfl) ?_ _
                  exact ⟨[_, _, _, _, _, _, _, _, _, _, _, _, _, _, _, _], rfl, (by simp only [List.cons_append, List.nil_append, putAll, List.setIfInBounds_toArray, List.set_cons_zero, List.set_cons_succ]; rfl), HB7.out⟩
              · rintro a' w7 ⟨ll, hll2, rfl, hB7⟩
                obtain ⟨l0, l1, l2, l3, l4, l5, l6, l7, l8, l9, l10, l11, l12, l13, l14, l15, rfl⟩ := list16 hll2
                simp only [List.cons_append, List.nil_append, putAll, List.setIfInBounds_toArray, List.set_cons_zero, List.set_cons_succ]
                obtain ⟨c0, _⟩ := HNM.out w7 hB7
                obtain ⟨bi, hbi⟩ : ∃ b, (dd || ii) = b := ⟨_, rfl⟩
                rw [hbi] at HNX ⊢
                have HB7 := Lib.hid (mem_then HBK.out hB7)
                have HRF7 := Lib.hid (HRF.out.keep hB7)
                have HOWN7 := Lib.hid (own_below HOWN.out hB7)
                clear hbi hll2 hB7
                cases bi with
                | true =>
                  obtain ⟨n, hn⟩ : ∃ n, L.length = n := ⟨_, rfl⟩
                  have HNN := Lib.hid hn
                  have hnl : n ≤ 100 := by omega
                  have HRO : Hid (w7.ownsRow W.heap.size 35 4 (.slice v1 n c1) n (L.flatMap FltP.cells)) := by show World.ownsRow _ _ _ _ _ _ _; rw [← hn]; exact HRF7.out.ro
                  rw [hn]
                  clear hn
                  go_wp2_with (at_builtin; refine wpList_append_src _ rfl (.tmp 88) (.tmp 95) 31 rfl W.heap.size 35 ri _ 4 56 Tryd.underlying31 hri rz0 rz1 rz2 rfl (by decide) (.slice v1 n c1) n (L.flatMap FltP.cells) rfl (own_below HRO.out (mem_alloc _ _)) (some ⟨w7.heap.size, 0, none⟩) 1 1 [.int .i64 (j : Int), .slice none 0 0, .int .i64 8, .string x] rfl (one_src (cs := [.int .i64 (j : Int), .slice none 0 0, .int .i64 8, .string x]) (n := 1) (mem_new _ _) rfl) (by simp [Value.oneCell']) (by unfold maxLen; omega) (by omega) (by have := HB7.out.size; simp; omega) ?_)
                  intro v9 w9 hown9 hgrow9 _
                  have hgrow8 : (w7.alloc (.cells #[.int .i64 (j : Int), .slice none 0 0, .int .i64 8, .string x] 35)).grownBy w9 (Value.slice v1 L.length c1).ownBlock := by rw [HNN.out]; exact hgrow9
                  rw [← HNN.out] at hown9
                  have HRF9 := Lib.hid (RF.add (L6 := [⟨(j : Int), ⟨[], 8, x⟩, .slice none 0 0⟩]) HRF7.out (mem_alloc w7 _) (fun f hf => by obtain rfl := List.mem_singleton.1 hf; exact World.ownsRow_nil _ _ _ _) hown9 hgrow8)
                  have HOWN9 := Lib.hid (own_beside (own_below HOWN7.out (mem_alloc w7 _)) (own_below HRO.out (mem_alloc w7 _)) (by decide) hgrow9)
                  have HB9 := Lib.hid ((mem_then HB7.out (mem_alloc w7 _)).grown hgrow9 (mem_then HB7.out (mem_alloc w7 _)).size (fun b hb => (own_lt HRO.out hb).1))
                  clear hown9 hgrow9 hgrow8 c0
                  go_wp2_with fail
                  go_roundw
                  case rel => exact ⟨k + 1, _, by omega, by go_num, HRF9.out, by rw [HNX.out, flat_append, HFL.out, List.map_append (l₁ := _ ++ _)]; rfl, HOWN9.out, by rw [List.length_append, HNN.out]; have := HNN.out; simp; omega, HB9.out⟩
                  case measure => simp [intOf]; omega
                | false =>
                  clear c0
                  go_wp2_with fail
                  go_roundw
                  case rel => exact ⟨k + 1, L, by omega, by go_num, HRF7.out, by rw [HNX.out, HFL.out]; simp, HOWN7.out, by omega, HB7.out⟩
                  case measure => simp [intOf]; omega
            ·
              obtain rfl : k = m.length := by omega
              have HFL2 : Hid (flat L = (tw0 p j t ++ declF (memB (p.shared.map (·.name))) [] m).map (TFlt.mk (j : Int))) := by show _ = _; rw [HFL.out, List.take_length]
              have hll3 : L.length ≤ 17 := by omega
              obtain ⟨w5, hw5⟩ : ∃ w5 : World, w5 = wr := ⟨_, rfl⟩
              rw [← hw5] at HRF HOWN HBK ⊢
              obtain ⟨_, _, _, hxt, _, hit⟩ := HK.out w5 HBK.out
              have x4 := mem_cell hxt 4
              have x5 := mem_cell hxt 5
              have x6 := mem_cell hxt 6
              have x7 := mem_cell hxt 7
              simp only [Tsk.cells, List.getElem?_toArray, List.getElem?_cons_zero, List.getElem?_cons_succ] at x4 x5 x6 x7
              have HTOP : Hid (Calls Tryd.prog 54 #[t.body.val q.ka q.kc] w5 fun e w' => ∃ v vs, e = .returned v ∧ PRowN W.heap.size w5.heap.size w' v (pathsP t.body []) vs ∧ Below w5.heap.size w5 w') := by
                have := HVL.out
                have := t.body.depth_le_size
                exact paths15_top W.heap.size t.body w5 q.ka q.kc hit.body HBK.out.size (by omega) (by omega)
              clear hit hxt hw5 hown y0
              go_wp2_with fail
              clear x4 x5 x6 x7
              have h9 := HTOP.out
              refine h9.mono ?_
              clear h9
              obtain ⟨PL, hPL⟩ : ∃ PL, pathsP t.body [] = PL := ⟨_, rfl⟩
              have HPL := Lib.hid hPL
              have hpll : PL.length ≤ 400 := by rw [← hPL]; unfold pathsP; rw [List.length_map, items_len]; exact HVL.out.2.2
              rw [hPL]
              clear hPL
              rintro e w6 ⟨v6, vs6, rfl, h6, hB6⟩
              have HRF6 := Lib.hid (HRF.out.keep hB6)
              have HP6 := Lib.hid (h6.base HBK.out.size)
              have HB6 := Lib.hid (mem_then HBK.out hB6)
              obtain ⟨va6, vc6, rfl⟩ := own_val h6.own
              clear h6 hB6
              go_wp2_with fail
              go_loopw [5, 13] (fun v iv wq => ∃ (k : Nat) (L : List FltP), k ≤ PL.length ∧ iv = .int .i64 (k : Int) ∧ RF W.heap.size wq v L ∧ flat L = (tw0 p j t ++ declF (memB (p.shared.map (·.name))) [] m ++ bodyF p t ((t.body.items []).take k)).map (TFlt.mk (j : Int)) ∧ PRowN W.heap.size W.heap.size wq (.slice va6 PL.length vc6) PL vs6 ∧ L.length ≤ 17 + k ∧ Below W.heap.size W wq) (fun _ iv _ => PL.length - (intOf iv).toNat)
              case atStart => exact ⟨0, L, Nat.zero_le _, rfl, HRF6.out, by rw [HFL2.out, List.take_zero]; simp [bodyF], HP6.out, by omega, HB6.out⟩
              case round =>
                clear HRF HFL HOWN HBK HFL2 hll3 hll hk hk0 HTOP HRF6 HP6 HB6
                obtain ⟨k, L, hk, rfl, hrf, hfl, hpr, hll, hBr⟩ := hrel
                have HRF := Lib.hid hrf
                have HFL := Lib.hid hfl
                have HPR := Lib.hid hpr
                have HBK := Lib.hid hBr
                have hk0 : (0 : Int) ≤ (k : Int) := by omega
                obtain ⟨v1, c1, rfl⟩ := own_val hrf.ro
                clear hrf hfl hBr
                by_cases hlk : k < PL.length
                ·
                  have hlk2 : (k : Int) < (PL.length : Int) := by omega
                  obtain ⟨pb, rfl, hpb, _⟩ := own_at hpr.own (by omega)
                  obtain ⟨pk, hpk⟩ : ∃ q, PL[k]? = some q := ⟨_, List.getElem?_eq_getElem hlk⟩
                  obtain ⟨uk, huk⟩ : ∃ u, vs6[k]? = some u := ⟨_, List.getElem?_eq_getElem (by rw [hpr.len]; exact hlk)⟩
                  have hpv := hpr.each k pk uk hpk huk
                  obtain ⟨pa, pc, rfl⟩ := own_val hpv
                  have HPV := Lib.hid hpv
                  have HUK := Lib.hid huk
                  have hpcap := own_lecap hpv
                  rw [← HPL.out] at hpk
                  obtain ⟨n, hin, hat⟩ := path_item hpk
                  have HAT := Lib.hid hat
                  have hplen : pk.length ≤ 1000000 := by
                    have h := path_le (List.mem_of_getElem? hin)
                    have := HVL.out
                    have := t.body.depth_le_size
                    simp at h
                    omega
                  obtain ⟨ov, hov⟩ : ∃ ov, oneP p t pk n = ov := ⟨_, rfl⟩
                  have HNX : Hid (bodyF p t ((t.body.items []).take (k + 1)) = bodyF p t ((t.body.items []).take k) ++ (if ov = 0 then [] else [Flt.mk pk ov n.name])) := by
                    show _ = _
                    have hlt2 : k < (t.body.items []).length := by
                      rw [List.getElem?_eq_some_iff] at hin
                      exact hin.1
                    rw [List.take_add_one, hin, bodyF_append]
                    simp [bodyF, hov]
                  have HCV : Hid (∀ w', Below wr.heap.size wr w' → w'.cell? ⟨pb, k, none⟩ = some (.slice pa pk.length pc) ∧ w'.cell? ⟨w.heap.size, 0, none⟩ = some (.slice sa p.shared.length sc) ∧ w'.cell? ⟨w.heap.size, 1, none⟩ = some (.slice (some ⟨tb, tf, none⟩) p.tasks.length tc) ∧ w'.heap[A1.heap.size]? = some (tskObj t q)) := fun w' h => by
                    obtain ⟨_, y0, y1, hxt, _, _⟩ := HK.out w' (mem_then HBK.out h)
                    exact ⟨cell_below h (own_get HPR.out.own huk), y0, y1, hxt⟩
                  have HONE : Hid (∀ w', Below wr.heap.size wr w' → Calls Tryd.prog 70 #[p.val sa sc (some ⟨tb, tf, none⟩) tc, .agg (t.cells q), .slice pa pk.length pc] w' fun e w'' => e = .returned (.int .i64 ov) ∧ Below w'.heap.size w' w'') := fun w' h => by
                    obtain ⟨_, _, _, _, hpg, hit⟩ := HK.out w' (mem_then HBK.out h)
                    have h9 := one15_any p t q n pk w' sa (some ⟨tb, tf, none⟩) pa sc tc pc hpg hit (PathV.row (own_below HPV.out h)) hpcap hplen HAT.out
                    rw [hov] at h9
                    exact h9
                  have HNODE : Hid (∀ w', Below wr.heap.size wr w' → Calls Tryd.prog 55 #[t.body.val q.ka q.kc, .slice pa pk.length pc] w' fun e w'' => ∃ a' c', e = .returned (n.val a' c') ∧ Rep w'' n a' ∧ Below w'.heap.size w' w'') := fun w' h => by
                    obtain ⟨_, _, _, _, _, hit⟩ := HK.out w' (mem_then HBK.out h)
                    exact node15_any t.body n pk w' q.ka pa q.kc pc hit.body (PathV.row (own_below HPV.out h)) HAT.out
                  have hfd : ∀ (u : Tree) (a : Option Addr) (c : Nat) (w : World), (Instr.field 43 (u.val a c) 2).run Tryd.prog w = .ok (.string u.name) w := fun u a c w => by kernel_rfl
                  clear hpr hpb hpk huk hpv hin hat hov
                  go_wp2_with fail
                  refine cut_runA (RunEnd3 106 7 14 (fun v w' => v = .int .i64 ov ∧ Below wr.heap.size wr w')) ?_ ?_
                  · refine wp_region_held_drew (S := fun w' => Below wr.heap.size wr w') (by kernel_rfl) ((Below.refl _ _).drew) (fun hHeld => ?_)
                    generalize hwd : World.drew _ = v0 at hHeld ⊢
                    clear hwd
                    refine wpAnyH_take (i := 0) (v := .agg #[.slice sa p.shared.length sc, .slice (some ⟨tb, tf, none⟩) p.tasks.length tc]) rfl (by kernel_rfl) (by kernel_rfl) (by kernel_rfl) (fun _ _ _ h => h) (Or.inl ⟨by rfl, ?_⟩) (by assumption) ?_
                    · intro w' hSw; obtain ⟨c0, c1, c2, _⟩ := HCV.out _ hSw; go_simp
                    (try simp only [Act.put, List.getElem_toArray, List.getElem_cons_zero, List.setIfInBounds_toArray, List.set_cons_zero, List.set_cons_succ])
                    refine wpAnyH_take (i := 1) (v := .agg #[.string t.name, .int .i64 t.period, .slice q.va t.vars.length q.vc, .slice q.aa t.arrays.length q.ac, .int .u8 t.body.kind, .int .i64 t.body.num, .string t.body.name, .slice q.ka t.body.len q.kc]) rfl (by kernel_rfl) (by kernel_rfl) (by kernel_rfl) (fun _ _ _ h => h) (Or.inl ⟨by rfl, ?_⟩) (by assumption) ?_
                    · intro w' hSw; obtain ⟨_, _, _, hxt⟩ := HCV.out _ hSw; have x0 := mem_cell hxt 0; have x1 := mem_cell hxt 1; have x2 := mem_cell hxt 2; have x3 := mem_cell hxt 3; have x4 := mem_cell hxt 4; have x5 := mem_cell hxt 5; have x6 := mem_cell hxt 6; have x7 := mem_cell hxt 7; simp only [Tsk.cells, List.getElem?_toArray, List.getElem?_cons_zero, List.getElem?_cons_succ] at x0 x1 x2 x3 x4 x5 x6 x7; clear hxt; go_simp
                    (try simp only [Act.put, List.getElem_toArray, List.getElem_cons_zero, List.getElem_cons_succ, List.setIfInBounds_toArray, List.set_cons_zero, List.set_cons_succ])
                    refine wpAnyH_take (i := 2) (v := .slice (some ⟨pb, 0, none⟩) PL.length vc6) rfl (by kernel_rfl) (by kernel_rfl) (by kernel_rfl) (fun _ _ _ h => h) (Or.inl ⟨by rfl, ?_⟩) (by assumption) ?_
                    · intro w' hSw; go_simp
                    (try simp only [Act.put, List.getElem_toArray, List.getElem_cons_zero, List.getElem_cons_succ, List.setIfInBounds_toArray, List.set_cons_zero, List.set_cons_succ])
                    refine wpAnyH_take (i := 3) (v := .int .i64 (k : Int)) rfl (by kernel_rfl) (by kernel_rfl) (by kernel_rfl) (fun _ _ _ h => h) (Or.inl ⟨by rfl, ?_⟩) (by assumption) ?_
                    · intro w' hSw; go_simp
                    (try simp only [Act.put, List.getElem_toArray, List.getElem_cons_zero, List.getElem_cons_succ, List.setIfInBounds_toArray, List.set_cons_zero, List.set_cons_succ])
                    refine wpAnyH_take (i := 4) (v := .pointer (some ⟨pb, k, none⟩)) rfl (by kernel_rfl) (by kernel_rfl) (by kernel_rfl) (fun _ _ _ h => h) (Or.inl ⟨by rfl, ?_⟩) (by assumption) ?_
                    · intro w' hSw; go_simp
                    (try simp only [Act.put, List.getElem_toArray, List.getElem_cons_zero, List.getElem_cons_succ, List.setIfInBounds_toArray, List.set_cons_zero, List.set_cons_succ])
                    refine wpAnyH_take (i := 5) (v := .slice pa pk.length pc) rfl (by kernel_rfl) (by kernel_rfl) (by kernel_rfl) (fun _ _ _ h => h) (Or.inl ⟨by rfl, ?_⟩) (by assumption) ?_
                    · intro w' hSw; obtain ⟨c0, c1, c2, _⟩ := HCV.out _ hSw; go_simp
                    (try simp only [Act.put, List.getElem_toArray, List.getElem_cons_zero, List.getElem_cons_succ, List.setIfInBounds_toArray, List.set_cons_zero, List.set_cons_succ])
                    refine wpAnyH_ready (rs := [6]) (by kernel_rfl) (by simp) (AllReadyH.cons rfl (fun K hK => ?_) AllReadyH.nil)
                    go_simp
                    have h9 := HONE.out v0 hHeld
                    refine h9.mono ?_
                    clear h9
                    rintro e w6 ⟨rfl, hB6⟩
                    have HB6 := Lib.hid (mem_then hHeld hB6)
                    clear hB6
                    refine hK.out _ _ (HB6.out) (fun hHeld => ?_)
                    clear hK K
                    rename_i hOld
                    clear hOld
                    (try simp only [Act.put, List.getElem_toArray, List.getElem_cons_zero, List.getElem_cons_succ, List.setIfInBounds_toArray, List.set_cons_zero, List.set_cons_succ])
                    refine wpAnyH_ready (rs := [7]) (by kernel_rfl) (by simp) (AllReadyH.cons rfl (fun K hK => ?_) AllReadyH.nil)
                    go_simp
                    refine hK.out _ _ (HB6.out) (fun hHeld => ?_)
                    clear hK K
                    rename_i hOld
                    clear hOld
                    (try simp only [Act.put, List.getElem_toArray, List.getElem_cons_zero, List.getElem_cons_succ, List.setIfInBounds_toArray, List.set_cons_zero, List.set_cons_succ])
                    refine wpAnyH_done (by kernel_rfl) ?_ _
                    exact ⟨[_, _, _, _, _, _, _], _, rfl, (by simp only [putAll, List.setIfInBounds_toArray, List.set_cons_zero, List.set_cons_succ]; rfl), rfl, HB6.out⟩
                  · rintro a' w7 ⟨ll, vv, hll2, rfl, rfl, hB7⟩
                    obtain ⟨l0, l1, l2, l3, l4, l5, l6, rfl⟩ := list7 hll2
                    simp only [List.cons_append, List.nil_append, putAll, List.setIfInBounds_toArray, List.set_cons_zero, List.set_cons_succ]
                    have HB7 := Lib.hid hB7
                    have HB7W := Lib.hid (mem_then HBK.out hB7)
                    have HRF7 := Lib.hid (HRF.out.keep hB7)
                    have HPR7 := Lib.hid (HPR.out.keep hB7)
                    clear hll2 hB7
                    by_cases h0 : ov = 0
                    · have hb : (ov == 0) = true := by simp [h0]
                      have HNX2 : Hid (bodyF p t ((t.body.items []).take (k + 1)) = bodyF p t ((t.body.items []).take k)) := by show _ = _; rw [HNX.out, if_pos h0, List.append_nil]
                      clear h0
                      go_wp2_with fail
                      go_roundw
                      case rel => exact ⟨k + 1, L, by omega, by go_num, HRF7.out, by rw [HNX2.out, HFL.out], HPR7.out, by omega, HB7W.out⟩
                      case measure => simp [intOf]; omega
                    · have hb : (ov == 0) = false := by simpa using h0
                      have HNX2 : Hid (bodyF p t ((t.body.items []).take (k + 1)) = bodyF p t ((t.body.items []).take k) ++ [Flt.mk pk ov n.name]) := by show _ = _; rw [HNX.out, if_neg h0]
                      clear h0
                      go_wp2_with fail
                      rw [show (ov != 0) = true from by simp [bne, hb]]
                      refine cut_runA (RunEnd3 115 18 5 (fun v w' => RF W.heap.size w' v (L ++ [⟨(j : Int), ⟨pk, ov, n.name⟩, .slice pa pk.length pc⟩]) ∧ PRowN W.heap.size W.heap.size w' (.slice (some ⟨pb, 0, none⟩) PL.length vc6) PL vs6 ∧ Below W.heap.size W w')) ?_ ?_
                      · have hd0 : Below w7.heap.size w7 w7.drew := (Below.refl _ _).drew
                        refine wp_region_held_drew (S := fun w' => w'.cell? ⟨pb, k, none⟩ = some (.slice pa pk.length pc) ∧ Below W.heap.size W w') (by kernel_rfl) ⟨(HCV.out _ (mem_then HB7.out hd0)).1, mem_then HB7W.out hd0⟩ (fun hHeld => ?_)
                        generalize hwd : World.drew _ = v0 at hHeld hd0 ⊢
                        clear hwd
                        obtain ⟨m5, hm5⟩ : ∃ m5, L.length = m5 := ⟨_, rfl⟩
                        have HM5 := Lib.hid hm5
                        have hm5l : m5 ≤ 1000 := by omega
                        have HRO7 : Hid (w7.ownsRow W.heap.size 35 4 (.slice v1 m5 c1) m5 (L.flatMap FltP.cells)) := by show World.ownsRow _ _ _ _ _ _ _; rw [← hm5]; exact HRF7.out.ro
                        rw [hm5]
                        clear hm5
                        refine wpAnyH_take (i := 0) (v := .slice v1 m5 c1) rfl (by kernel_rfl) (by kernel_rfl) (by kernel_rfl) (fun _ _ _ h => h) (Or.inl ⟨by rfl, ?_⟩) (by assumption) ?_
                        · intro w' hSw; go_simp
                        (try simp only [Act.put, List.getElem_toArray, List.getElem_cons_zero, List.setIfInBounds_toArray, List.set_cons_zero, List.set_cons_succ])
                        refine wpAnyH_take (i := 1) (v := .int .i64 (j : Int)) rfl (by kernel_rfl) (by kernel_rfl) (by kernel_rfl) (fun _ _ _ h => h) (Or.inl ⟨by rfl, ?_⟩) (by assumption) ?_
                        · intro w' hSw; go_simp
                        (try simp only [Act.put, List.getElem_toArray, List.getElem_cons_zero, List.getElem_cons_succ, List.setIfInBounds_toArray, List.set_cons_zero, List.set_cons_succ])
                        refine wpAnyH_take (i := 2) (v := .slice (some ⟨pb, 0, none⟩) PL.length vc6) rfl (by kernel_rfl) (by kernel_rfl) (by kernel_rfl) (fun _ _ _ h => h) (Or.inl ⟨by rfl, ?_⟩) (by assumption) ?_
                        · intro w' hSw; go_simp
                        (try simp only [Act.put, List.getElem_toArray, List.getElem_cons_zero, List.getElem_cons_succ, List.setIfInBounds_toArray, List.set_cons_zero, List.set_cons_succ])
                        refine wpAnyH_take (i := 3) (v := .int .i64 (k : Int)) rfl (by kernel_rfl) (by kernel_rfl) (by kernel_rfl) (fun _ _ _ h => h) (Or.inl ⟨by rfl, ?_⟩) (by assumption) ?_
                        · intro w' hSw; go_simp
                        (try simp only [Act.put, List.getElem_toArray, List.getElem_cons_zero, List.getElem_cons_succ, List.setIfInBounds_toArray, List.set_cons_zero, List.set_cons_succ])
                        refine wpAnyH_take (i := 4) (v := .pointer (some ⟨pb, k, none⟩)) rfl (by kernel_rfl) (by kernel_rfl) (by kernel_rfl) (fun _ _ _ h => h) (Or.inl ⟨by rfl, ?_⟩) (by assumption) ?_
                        · intro w' hSw; go_simp
                        (try simp only [Act.put, List.getElem_toArray, List.getElem_cons_zero, List.getElem_cons_succ, List.setIfInBounds_toArray, List.set_cons_zero, List.set_cons_succ])
                        refine wpAnyH_take (i := 5) (v := .slice pa pk.length pc) rfl (by kernel_rfl) (by kernel_rfl) (by kernel_rfl) (fun _ _ _ h => h) (Or.inl ⟨by rfl, ?_⟩) (by assumption) ?_
                        · intro w' hSw; have c0 := hSw.1; go_simp
                        (try simp only [Act.put, List.getElem_toArray, List.getElem_cons_zero, List.getElem_cons_succ, List.setIfInBounds_toArray, List.set_cons_zero, List.set_cons_succ])
                        refine wpAnyH_take (i := 6) (v := .int .i64 ov) rfl (by kernel_rfl) (by kernel_rfl) (by kernel_rfl) (fun _ _ _ h => h) (Or.inl ⟨by rfl, ?_⟩) (by assumption) ?_
                        · intro w' hSw; go_simp
                        (try simp only [Act.put, List.getElem_toArray, List.getElem_cons_zero, List.getElem_cons_succ, List.setIfInBounds_toArray, List.set_cons_zero, List.set_cons_succ])
                        refine wpAnyH_take (i := 7) (v := .pointer (some ⟨A1.heap.size, 4, none⟩)) rfl (by kernel_rfl) (by kernel_rfl) (by kernel_rfl) (fun _ _ _ h => h) (Or.inl ⟨by rfl, ?_⟩) (by assumption) ?_
                        · intro w' hSw; go_simp
                        (try simp only [Act.put, List.getElem_toArray, List.getElem_cons_zero, List.getElem_cons_succ, List.setIfInBounds_toArray, List.set_cons_zero, List.set_cons_succ])
                        refine wpAnyH_take (i := 8) (v := t.body.val q.ka q.kc) rfl (by kernel_rfl) (by kernel_rfl) (by kernel_rfl) (fun _ _ _ h => h) (Or.inl ⟨by rfl, ?_⟩) (by assumption) ?_
                        · intro w' hSw; obtain ⟨_, _, _, hxt, _, _⟩ := HK.out _ hSw.2; have x4 := mem_cell hxt 4; have x5 := mem_cell hxt 5; have x6 := mem_cell hxt 6; have x7 := mem_cell hxt 7; simp only [Tsk.cells, List.getElem?_toArray, List.getElem?_cons_zero, List.getElem?_cons_succ] at x4 x5 x6 x7; clear hxt; go_simp
                        (try simp only [Act.put, List.getElem_toArray, List.getElem_cons_zero, List.getElem_cons_succ, List.setIfInBounds_toArray, List.set_cons_zero, List.set_cons_succ])
                        refine wpAnyH_take (i := 9) (v := .slice (some ⟨pb, 0, none⟩) PL.length vc6) rfl (by kernel_rfl) (by kernel_rfl) (by kernel_rfl) (fun _ _ _ h => h) (Or.inl ⟨by rfl, ?_⟩) (by assumption) ?_
                        · intro w' hSw; go_simp
                        (try simp only [Act.put, List.getElem_toArray, List.getElem_cons_zero, List.getElem_cons_succ, List.setIfInBounds_toArray, List.set_cons_zero, List.set_cons_succ])
                        refine wpAnyH_take (i := 10) (v := .int .i64 (k : Int)) rfl (by kernel_rfl) (by kernel_rfl) (by kernel_rfl) (fun _ _ _ h => h) (Or.inl ⟨by rfl, ?_⟩) (by assumption) ?_
                        · intro w' hSw; go_simp
                        (try simp only [Act.put, List.getElem_toArray, List.getElem_cons_zero, List.getElem_cons_succ, List.setIfInBounds_toArray, List.set_cons_zero, List.set_cons_succ])
                        refine wpAnyH_take (i := 11) (v := .pointer (some ⟨pb, k, none⟩)) rfl (by kernel_rfl) (by kernel_rfl) (by kernel_rfl) (fun _ _ _ h => h) (Or.inl ⟨by rfl, ?_⟩) (by assumption) ?_
                        · intro w' hSw; go_simp
                        (try simp only [Act.put, List.getElem_toArray, List.getElem_cons_zero, List.getElem_cons_succ, List.setIfInBounds_toArray, List.set_cons_zero, List.set_cons_succ])
                        refine wpAnyH_take (i := 12) (v := .slice pa pk.length pc) rfl (by kernel_rfl) (by kernel_rfl) (by kernel_rfl) (fun _ _ _ h => h) (Or.inl ⟨by rfl, ?_⟩) (by assumption) ?_
                        · intro w' hSw; have c0 := hSw.1; go_simp
                        (try simp only [Act.put, List.getElem_toArray, List.getElem_cons_zero, List.getElem_cons_succ, List.setIfInBounds_toArray, List.set_cons_zero, List.set_cons_succ])
                        refine wpAnyH_ready (rs := [13]) (by kernel_rfl) (by simp) (AllReadyH.cons rfl (fun K hK => ?_) AllReadyH.nil)
                        go_simp
                        have h9 := HNODE.out v0 (mem_then HB7.out hd0)
                        refine h9.mono ?_
                        clear h9
                        rintro e w6 ⟨a6, c6, rfl, _, hB6⟩
                        have HB6 := Lib.hid (mem_then hd0 hB6)
                        clear hB6 hd0
                        refine hK.out _ _ (⟨(HCV.out _ (mem_then HB7.out HB6.out)).1, mem_then HB7W.out HB6.out⟩) (fun hHeld => ?_)
                        clear hK K
                        rename_i hOld
                        clear hOld
                        (try simp only [Act.put, List.getElem_toArray, List.getElem_cons_zero, List.getElem_cons_succ, List.setIfInBounds_toArray, List.set_cons_zero, List.set_cons_succ])
                        refine wpAnyH_take (i := 14) (v := .string n.name) rfl (by kernel_rfl) (by kernel_rfl) (by kernel_rfl) (fun _ _ _ h => h) (Or.inl ⟨by rfl, ?_⟩) (by assumption) ?_
                        · intro w' hSw; go_simp
                        (try simp only [Act.put, List.getElem_toArray, List.getElem_cons_zero, List.getElem_cons_succ, List.setIfInBounds_toArray, List.set_cons_zero, List.set_cons_succ])
                        refine wpAnyH_take (i := 15) (v := .agg #[.int .i64 (j : Int), .slice pa pk.length pc, .int .i64 ov, .string n.name]) rfl (by kernel_rfl) (by kernel_rfl) (by kernel_rfl) (fun _ _ _ h => h) (Or.inl ⟨by rfl, ?_⟩) (by assumption) ?_
                        · intro w' hSw; go_simp
                        (try simp only [Act.put, List.getElem_toArray, List.getElem_cons_zero, List.getElem_cons_succ, List.setIfInBounds_toArray, List.set_cons_zero, List.set_cons_succ])
                        refine wpAnyH_ready (rs := [16]) (by kernel_rfl) (by simp) (AllReadyH.cons rfl (fun K hK => ?_) AllReadyH.nil)
                        go_simp
                        have HB8 := Lib.hid (mem_then HB6.out (mem_alloc w6 (.cells #[.int .i64 (j : Int), .slice pa pk.length pc, .int .i64 ov, .string n.name] 35)))
                        refine hK.out _ _ (⟨(HCV.out _ (mem_then HB7.out HB8.out)).1, mem_then HB7W.out HB8.out⟩) (fun hHeld => ?_)
                        clear hK K
                        rename_i hOld
                        clear hOld
                        (try simp only [Act.put, List.getElem_toArray, List.getElem_cons_zero, List.getElem_cons_succ, List.setIfInBounds_toArray, List.set_cons_zero, List.set_cons_succ])
                        refine wpAnyH_ready (rs := [17]) (by kernel_rfl) (by simp) (AllReadyH.cons rfl (fun K hK => ?_) AllReadyH.nil)
                        refine step_append_src _ rfl (.tmp 115) (.tmp 131) 31 rfl W.heap.size 35 ri _ 4 56 Tryd.underlying31 hri rz0 rz1 rz2 rfl (by decide) (.slice v1 m5 c1) m5 (L.flatMap FltP.cells) (by simp [Act.eval]) (own_below HRO7.out HB8.out) (some ⟨w6.heap.size, 0, none⟩) 1 1 [.int .i64 (j : Int), .slice pa pk.length pc, .int .i64 ov, .string n.name] (by simp [Act.eval]) (one_src (cs := [.int .i64 (j : Int), .slice pa pk.length pc, .int .i64 ov, .string n.name]) (n := 1) (mem_new _ _) rfl) (by simp [Value.oneCell']) (by unfold maxLen; omega) (by omega) (mem_then HB7W.out HB8.out).size ?_
                        intro v9 w9 hown9 hgrow9 _
                        have hgrow8 : (w6.alloc (.cells #[.int .i64 (j : Int), .slice pa pk.length pc, .int .i64 ov, .string n.name] 35)).grownBy w9 (Value.slice v1 L.length c1).ownBlock := by rw [HM5.out]; exact hgrow9
                        rw [← HM5.out] at hown9
                        have HRF9 := Lib.hid (RF.add (L6 := [⟨(j : Int), ⟨pk, ov, n.name⟩, .slice pa pk.length pc⟩]) HRF7.out HB8.out (fun f hf => by obtain rfl := List.mem_singleton.1 hf; exact own_below HPV.out (mem_then HB7.out HB8.out)) hown9 hgrow8)
                        have HPR9 := Lib.hid ((HPR7.out.keep HB8.out).beside (own_below HRO7.out HB8.out) (by decide) (by decide) hgrow9)
                        have HB9 := Lib.hid ((mem_then HB7W.out HB8.out).grown hgrow9 (mem_then HB7W.out HB8.out).size (fun b hb => (own_lt HRO7.out hb).1))
                        clear hown9 hgrow9 hgrow8
                        have HS9 := Lib.hid (own_get HPR9.out.own HUK.out)
                        refine hK.out _ _ (⟨HS9.out, HB9.out⟩) (fun hHeld => ?_)
                        clear hK K
                        rename_i hOld
                        clear hOld
                        (try simp only [Act.put, List.getElem_toArray, List.getElem_cons_zero, List.getElem_cons_succ, List.setIfInBounds_toArray, List.set_cons_zero, List.set_cons_succ])
                        refine wpAnyH_ready (rs := [18]) (by kernel_rfl) (by simp) (AllReadyH.cons rfl (fun K hK => ?_) AllReadyH.nil)
                        go_simp
                        refine hK.out _ _ (⟨HS9.out, HB9.out⟩) (fun hHeld => ?_)
                        clear hK K
                        rename_i hOld
                        clear hOld
                        (try simp only [Act.put, List.getElem_toArray, List.getElem_cons_zero, List.getElem_cons_succ, List.setIfInBounds_toArray, List.set_cons_zero, List.set_cons_succ])
                        refine wpAnyH_done (by kernel_rfl) ?_ _
                        exact ⟨[_, _, _, _, _, _, _, _, _, _, _, _, _, _, _, _, _, _], v9, rfl, (by simp only [putAll, List.setIfInBounds_toArray, List.set_cons_zero, List.set_cons_succ]; rfl), HRF9.out, HPR9.out, HB9.out⟩
                      · rintro a' w9 ⟨ll, v9, hll2, rfl, hrf9, hpr9, hB9⟩
                        obtain ⟨l0, l1, l2, l3, l4, l5, l6, l7, l8, l9, l10, l11, l12, l13, l14, l15, l16, l17, rfl⟩ := list18 hll2
                        simp only [List.cons_append, List.nil_append, putAll, List.setIfInBounds_toArray, List.set_cons_zero, List.set_cons_succ]
                        have HRF9 := Lib.hid hrf9
                        have HPR9 := Lib.hid hpr9
                        have HB9 := Lib.hid hB9
                        obtain ⟨va9, vc9, rfl⟩ := own_val hrf9.ro
                        clear hll2 hrf9 hpr9 hB9
                        go_wp2_with fail
                        go_roundw
                        case rel => exact ⟨k + 1, _, by omega, by go_num, HRF9.out, by rw [HNX2.out, flat_append, HFL.out, ← List.append_assoc, List.map_append (l₂ := [_])]; rfl, HPR9.out, by rw [List.length_append]; simp; omega, HB9.out⟩
                        case measure => simp [intOf]; omega
                · obtain rfl : k = PL.length := by omega
                  have HEND : Hid (flat L = RL.map (TFlt.mk (j : Int))) := by
                    show _ = _
                    rw [HFL.out, ← HRL.out]
                    unfold refTaskF
                    rw [← HMM.out, List.take_of_length_le (by rw [← HPL.out]; unfold pathsP; simp)]
                  clear hpr
                  go_wp2_with fail
                  go_ret
                  exact ⟨_, L, rfl, HRF.out.base (by have := HLT.out; omega), HEND.out, (HK.out _ HBK.out).1⟩
end Go.Proofs.YtnegdmhmhdojbaaDoor
