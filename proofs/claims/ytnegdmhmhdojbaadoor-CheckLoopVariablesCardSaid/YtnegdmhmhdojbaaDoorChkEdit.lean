/-
  Contract: edit (package ontimelaw15): every node replaced, the children first; the new tree lies in new memory.
-/
import Derived.Test.YtnegdmhmhdojbaaDoorAstClone
import Derived.Test.YtnegdmhmhdojbaaDoorMemSet
import Derived.Laws.EntriesVeiled
namespace Go.Proofs.YtnegdmhmhdojbaaDoor
set_option linter.unusedVariables false
set_option linter.unusedSimpArgs false
open Go.RowKit
set_option maxRecDepth 100000

/-- a tree with every node replaced, the children first -/
def editT (g : Tree → Tree) : Tree → Tree
  | .node k n s l kid => g (.node k n s l (fun i => editT g (kid i)))
/-- the node with its children replaced -/
def mapK (g : Tree → Tree) (t : Tree) : Tree := Tree.make t.kind t.num t.name t.len (fun i => editT g (t.kid i))
theorem editT_eq (g : Tree → Tree) (t : Tree) : editT g t = g (mapK g t) := by
  cases t with
  | node k n s l kid =>
    rw [editT]
    refine congrArg g (Tree.eq_of rfl rfl rfl rfl fun i hi => ?_)
    have hi' : i < l := hi
    rw [Tree.kid_node hi']
    show _ = (Tree.make k n s l (fun i => editT g ((Tree.node k n s l kid).kid i))).kid i
    rw [Tree.make_kid hi', Tree.kid_node hi']
theorem mapK_kid {g : Tree → Tree} {t : Tree} {i : Nat} (h : i < t.len) : (mapK g t).kid i = editT g (t.kid i) := Tree.make_kid h
/-- what is asked of every node, its children replaced -/
def EdOk (g : Tree → Tree) (Q : Tree → Prop) : Tree → Prop
  | .node k n s l kid => Q (mapK g (.node k n s l kid)) ∧ ∀ i, EdOk g Q (kid i)
theorem EdOk.own {g : Tree → Tree} {Q : Tree → Prop} {t : Tree} (h : EdOk g Q t) : Q (mapK g t) := by cases t; exact h.1
theorem EdOk.kid {g : Tree → Tree} {Q : Tree → Prop} {t : Tree} (h : EdOk g Q t) {i : Nat} (hi : i < t.len) : EdOk g Q (t.kid i) := by
  cases t with
  | node k n s l kid => have hi' : i < l := hi; rw [Tree.kid_node hi']; exact h.2 _
theorem EdOk.mk {g : Tree → Tree} {Q : Tree → Prop} {t : Tree} (h : Q (mapK g t)) (hk : ∀ i, i < t.len → EdOk g Q (t.kid i)) : EdOk g Q t := by
  cases t with
  | node k n s l kid => exact ⟨h, fun i => by have := hk i.1 i.2; rwa [Tree.kid_node i.2] at this⟩

set_option maxHeartbeats 4000000 in
theorem edit_any (g : Tree → Tree) (Q : Tree → Prop) (gf : Nat) (lb : Array Value) (eg : ∀ args w, (callFunc gf args).run Tryd.prog w = .ok (.enter gf args) w) (W0 : World)
    (hG : ∀ (x : Tree) (S : Nat → Prop) (W : World) (a : Option Addr) (c : Nat), Below W0.heap.size W0 W → Q x → RepIn S W x a → Calls Tryd.prog gf (#[x.val a c] ++ lb) W fun e W' => ∃ a' c', e = .returned ((g x).val a' c') ∧ RepIn (fun k => S k ∨ W.heap.size ≤ k) W' (g x) a' ∧ Below W.heap.size W W') :
    ∀ (t : Tree) (w : World) (a : Option Addr) (c : Nat), Below W0.heap.size W0 w → EdOk g Q t → Rep w t a → t.size ≤ 1000000 →
    Calls Tryd.prog 31 #[t.val a c, .func (.func gf) #[] lb] w fun e w' => ∃ a' c', e = .returned ((editT g t).val a' c') ∧ RepIn (fun k => w.heap.size ≤ k) w' (editT g t) a' ∧ Below w.heap.size w w' := by
  have HGG := Lib.hid hG
  clear hG
  intro t
  induction t using Tree.ind with
  | h t ih =>
    intro w a c hw0 hed hv hs
    obtain ⟨i0, hi, hz0, hz1, hz2⟩ := info_parts Tryd.infoNode
    obtain ⟨K, hKE⟩ : ∃ K : Nat → Tree, K = fun i => editT g (t.kid i) := ⟨_, rfl⟩
    have HW0 := Lib.hid hw0
    have HOWNQ := Lib.hid hed.own
    have HED : Hid (∀ j, j < t.len → EdOk g Q (t.kid j)) := fun j hj => hed.kid hj
    have HKE := Lib.hid hKE
    have IH : Hid (∀ j, j < t.len → ∀ (w : World) (a : Option Addr) (c : Nat), Below W0.heap.size W0 w → EdOk g Q (t.kid j) → Rep w (t.kid j) a → (t.kid j).size ≤ 1000000 → Calls Tryd.prog 31 #[(t.kid j).val a c, .func (.func gf) #[] lb] w fun e w' => ∃ a' c', e = .returned ((K j).val a' c') ∧ RepIn (fun k => w.heap.size ≤ k) w' (K j) a' ∧ Below w.heap.size w w') := by
      subst hKE
      exact ih
    clear ih hw0 hed hKE
    have hfit := hv.fits
    have hl := hfit.len
    have HFIT := Lib.hid hfit
    have HK := Lib.hid hv.kids
    clear hv hfit
    have hls : t.len ≤ 1000000 := by
      have := Tree.size_eq t
      have h2 : ∀ (f : Nat → Nat) (n : Nat), (∀ i, 1 ≤ f i) → n ≤ Tree.sumTo f n := by
        intro f n hf
        induction n with
        | zero => exact Nat.zero_le _
        | succ n ihn => rw [Tree.sumTo_succ]; have := hf n; omega
      have := h2 (fun i => (t.kid i).size) t.len (fun i => Tree.size_pos _)
      omega
    have HSZ : Hid (∀ j, j < t.len → (t.kid j).size ≤ 1000000) := fun j hj => by have := Tree.size_kid hj; omega
    clear hs
    go_enter Tryd.func31, Tryd.ntmps31
    go_wp2_with fail
    go_loopw [5, 11] (fun v i wr => ∃ (j : Nat) (x : Nat → Option Addr × Nat), j ≤ t.len ∧ i = .int .i64 j ∧ wr.ownsRow (w.heap.size + 2) 43 4 v j (rowsTo K x j) ∧ (∀ i, i < j → RepIn (fun k => w.heap.size + 2 ≤ k ∧ v.ownBlock ≠ some k) wr (K i) (x i).1) ∧ Below (w.heap.size + 2) ((w.alloc (.cells #[.int .u8 t.kind, .int .i64 t.num, .string t.name, .slice a t.len c] 43)).alloc (.cells #[.int .u8 0, .int .i64 0, .string ⟨#[]⟩, .slice none 0 0] 43)) wr) (fun _ i _ => t.len - (intOf i).toNat)
    case atStart => exact ⟨0, fun _ => (none, 0), Nat.zero_le _, rfl, World.ownsRow_nil _ _ _ _, fun i hi => by omega, Below.refl _ _⟩
    case round =>
      obtain ⟨j, x, hj, rfl, hown, hreps, hBx⟩ := hrel
      have hsz : w.heap.size + 2 ≤ wr.heap.size := by have := hBx.size; simpa using this
      have hB : Below w.heap.size w wr := (((Below.refl _ w).alloc (Nat.le_refl _) _).alloc (by simp) _).trans (hBx.mono (by omega))
      have HB := Lib.hid hB
      have HBX := Lib.hid hBx
      have HREPS := Lib.hid hreps
      have HOWN := Lib.hid hown
      clear hBx hreps hown
      by_cases hlt : j < t.len
      · rcases HK.out with h0 | ⟨b, off, rfl, hc⟩
        · omega
        obtain ⟨ai, ci, hn, hr⟩ := hc j hlt
        obtain ⟨f0, f1, f2, f3⟩ := hn.below hB hn.lt
        clear hc hn hB
        go_wp2_with fail
        refine (IH.out j hlt _ ai ci (HW0.out.trans ((HB.out.alloc (by omega) _).mono HW0.out.size)) (HED.out j hlt) (hr.below (HB.out.alloc (by omega) _)) (HSZ.out j hlt)).mono ?_
        rintro e w1 ⟨a', c', rfl, hcopy, hB1⟩
        have hsz1 : wr.heap.size + 1 ≤ w1.heap.size := by have := hB1.size; simpa using this
        have HC := Lib.hid hcopy
        have HB1 := Lib.hid hB1
        have HOWN1 : Hid (w1.ownsRow (w.heap.size + 2) 43 4 u5 j (rowsTo K x j)) := ownsRow_below (HOWN.out.alloc _) hB1
        clear hcopy hB1 hr f0 f1 f2 f3
        go_wp2_with (at_builtin; refine wpList_append_row _ rfl _ _ 41 rfl (w.heap.size + 2) 43 i0 _ 4 56 Tryd.underlying41 hi hz0 hz1 hz2 rfl (by decide) _ _ _ rfl (HOWN1.out.alloc _) ⟨w1.heap.size, 0, none⟩ 1 1 ((K j).row (a', c')) rfl rfl ?c1 (row_one _ _) (by decide) ?c3 ?c4 ?c5 ?_)
        case c1 =>
          intro k u hu
          match k, hu with
          | 0, hu => simp [Tree.row] at hu; subst hu; exact World.cell?_alloc_new _ _ _ 0
          | 1, hu => simp [Tree.row] at hu; subst hu; exact World.cell?_alloc_new _ _ _ 1
          | 2, hu => simp [Tree.row] at hu; subst hu; exact World.cell?_alloc_new _ _ _ 2
          | 3, hu => simp [Tree.row] at hu; subst hu; exact World.cell?_alloc_new _ _ _ 3
          | k + 4, hu => simp [Tree.row] at hu
        case c3 => unfold maxLen; omega
        case c4 => omega
        case c5 => simp; omega
        intro g cap w2 hown2 hgrow hplace
        have hu5 : ∀ k, u5.ownBlock = some k → w.heap.size + 2 ≤ k ∧ k < wr.heap.size := HOWN.out.lt
        have hrow : rowsTo K x j ++ (K j).row (a', c') = rowsTo K (fun i => if i = j then (a', c') else x i) (j + 1) := by
          show _ = rowsTo K _ j ++ _
          rw [rowsTo_congr (x := x) (y := fun i => if i = j then (a', c') else x i) (fun i hi => by rw [if_neg (by omega)])]
          simp
        rw [hrow] at hown2
        have hkeep : ∀ k, w.heap.size + 2 ≤ k → k < wr.heap.size → u5.ownBlock ≠ some k → w2.heap[k]? = wr.heap[k]? := by
          intro k _ hk hne
          rw [hgrow.block k (by simp; omega) (fun e => hne e.symm), Below.heap_alloc _ _ _ (by omega), HB1.out.block k (by simp; omega), Below.heap_alloc _ _ _ hk]
        have hB2 : Below (w.heap.size + 2) ((w.alloc (.cells #[.int .u8 t.kind, .int .i64 t.num, .string t.name, .slice (some ⟨b, off, none⟩) t.len c] 43)).alloc (.cells #[.int .u8 0, .int .i64 0, .string ⟨#[]⟩, .slice none 0 0] 43)) w2 :=
          (((HBX.out.alloc hsz _).trans (HB1.out.mono (by simp; omega))).alloc (by omega) _).grown hgrow (by simp; omega) (fun k hk => (hu5 k hk).1)
        have HR2 : Hid (∀ i, i < j + 1 → RepIn (fun k => w.heap.size + 2 ≤ k ∧ (Value.slice (some ⟨g, 0, none⟩) (j + 1) cap).ownBlock ≠ some k) w2 (K i) ((fun i => if i = j then (a', c') else x i) i).1) := by
          intro i hi
          by_cases e : i = j
          · subst e
            simp only [if_true]
            refine HC.out.move (fun k hk hlt => ?_) (fun k hk hlt => ?_)
            · have hk' : wr.heap.size + 1 ≤ k := by simpa using hk
              rw [hgrow.block k (by simp; omega) (fun e => by have := (hu5 k e.symm).2; omega), Below.heap_alloc _ _ _ hlt]
            · have hk' : wr.heap.size + 1 ≤ k := by simpa using hk
              refine ⟨by omega, fun e => ?_⟩
              have hgk : g = k := by simpa [Value.ownBlock] using e
              rcases hplace with h | h
              · have := (hu5 _ h).2; omega
              · omega
          · simp only [if_neg e]
            refine (HREPS.out i (by omega)).move (fun k hk hlt => hkeep k hk.1 hlt hk.2) (fun k hk hlt => ⟨hk.1, fun e => ?_⟩)
            have hgk : g = k := by simpa [Value.ownBlock] using e
            rcases hplace with h | h
            · exact hk.2 (by rw [h, hgk])
            · omega
        have HO2 := Lib.hid hown2
        clear hown2 hgrow hplace hkeep hrow hu5
        go_wp2_with fail
        go_roundw
        case rel => exact ⟨j + 1, _, by omega, by go_num, HO2.out, HR2.out, hB2⟩
        case measure => simp [intOf]; omega
      · obtain rfl : j = t.len := by omega
        obtain ⟨A, cK, rfl⟩ := own_val HOWN.out
        have HN0 : wr.heap[w.heap.size]? = some (.cells #[.int .u8 t.kind, .int .i64 t.num, .string t.name, .slice a t.len c] 43) := (HBX.out.block _ (by omega)).trans (mem_old1 _ _ _)
        have HZ0 : wr.heap[w.heap.size + 1]? = some (.cells #[.int .u8 0, .int .i64 0, .string ⟨#[]⟩, .slice none 0 0] 43) := (HBX.out.block _ (by omega)).trans (mem_new1 _ _ _)
        have hne : w.heap.size ≠ w.heap.size + 1 := by omega
        obtain ⟨WS, hWS⟩ : ∃ WS : World, wr.setCell ⟨w.heap.size, 3, none⟩ (.slice A t.len cK) = WS := ⟨_, rfl⟩
        have hN1 : WS.heap[w.heap.size]? = some (.cells #[.int .u8 t.kind, .int .i64 t.num, .string t.name, .slice A t.len cK] 43) := by rw [← hWS, mem_set HN0]; rfl
        have hZ1 : WS.heap[w.heap.size + 1]? = some (.cells #[.int .u8 0, .int .i64 0, .string ⟨#[]⟩, .slice none 0 0] 43) := by rw [← hWS]; exact (Below.heap_setCell _ _ _ _ (by show w.heap.size + 1 ≠ w.heap.size; omega)).trans HZ0
        have hS1 : WS.heap.size = wr.heap.size := by rw [← hWS]; simp
        have hB1 : Below w.heap.size w WS := by rw [← hWS]; exact HB.out.setCell (p := ⟨w.heap.size, 3, none⟩) (Nat.le_refl _) _
        have HS : Hid (∀ k, w.heap.size + 2 ≤ k → WS.heap[k]? = wr.heap[k]?) := fun k hk => by rw [← hWS]; exact Below.heap_setCell _ _ _ _ (by show k ≠ w.heap.size; omega)
        have HREP : Hid (RepIn (fun k => w.heap.size + 2 ≤ k) WS (mapK g t) A) := by
          refine RepIn.mk ⟨HFIT.out.kind, HFIT.out.num, HFIT.out.name, HFIT.out.len⟩ ?_
          by_cases h0 : t.len = 0
          · exact .inl h0
          · obtain ⟨gb, rfl, hg, hgl⟩ := own_at HOWN.out (by omega)
            refine .inr ⟨gb, 0, rfl, hg, fun i hi => ⟨(x i).1, (x i).2, ?_, ?_⟩⟩
            · have hi' : i < t.len := hi
              rw [mapK_kid hi']
              have ca := fun d (hd : d < 4) => (HOWN.out.cellAt (i * 4 + d) (by omega)).trans (rowsTo_at K x hi' d hd)
              have k0 := ca 0 (by omega)
              have k1 := ca 1 (by omega)
              have k2 := ca 2 (by omega)
              have k3 := ca 3 (by omega)
              have e : K i = editT g (t.kid i) := by rw [HKE.out]
              rw [e] at k0 k1 k2 k3
              rw [Nat.zero_add]
              exact NodeAt.same (w := wr) ⟨k0, k1, k2, k3⟩ (HS.out gb hg)
            · have hi' : i < t.len := hi
              rw [mapK_kid hi']
              have e : K i = editT g (t.kid i) := by rw [HKE.out]
              rw [← e]
              exact (HREPS.out i hi').move (fun k hk _ => HS.out k hk.1) (fun k hk _ => hk.1)
        have HN1 := Lib.hid hN1
        have HZ1 := Lib.hid hZ1
        have HB1 := Lib.hid hB1
        have HS1 := Lib.hid hS1
        have c3 := mem_cell HN0 3
        have g3 := mem_free HN0 3
        have d0 := mem_cell HN1.out 0
        have d1 := mem_cell HN1.out 1
        have d2 := mem_cell HN1.out 2
        have d3 := mem_cell HN1.out 3
        simp only [List.getElem?_toArray, List.getElem?_cons_zero, List.getElem?_cons_succ] at c3 d0 d1 d2 d3
        clear HN0 HZ0 hN1 hZ1 hB1 hS1 hB
        go_wp2_with fail
        clear hWS c3 g3 d0 d1 d2 d3
        refine (HGG.out (mapK g t) (fun k => w.heap.size + 2 ≤ k) WS A cK (HW0.out.trans (HB1.out.mono HW0.out.size)) HOWNQ.out HREP.out).mono ?_
        rintro e w9 ⟨a', c', rfl, hr9, hB9⟩
        have HZ9 : Hid (w9.heap[w.heap.size + 1]? = some (.cells #[.int .u8 0, .int .i64 0, .string ⟨#[]⟩, .slice none 0 0] 43)) := mem_keep HZ1.out hB9
        have HR9 := Lib.hid hr9
        have HB9 : Hid (Below w.heap.size w w9) := HB1.out.trans (hB9.mono HB1.out.size)
        have HE : Hid (editT g t = g (mapK g t)) := editT_eq g t
        have HG2 : Hid (∀ k, w.heap.size + 2 ≤ k ∨ WS.heap.size ≤ k → w.heap.size + 2 ≤ k) := fun k hk => by
          have h1 := HS1.out
          omega
        obtain ⟨gx, hgx⟩ : ∃ gx, g (mapK g t) = gx := ⟨_, rfl⟩
        rw [hgx] at HR9 HE ⊢
        clear hr9 hB9 hgx
        have z0 := mem_cell HZ9.out 0
        have z1 := mem_cell HZ9.out 1
        have z2 := mem_cell HZ9.out 2
        have z3 := mem_cell HZ9.out 3
        have q0 := mem_free HZ9.out 0
        have q1 := mem_free HZ9.out 1
        have q2 := mem_free HZ9.out 2
        have q3 := mem_free HZ9.out 3
        simp only [List.getElem?_toArray, List.getElem?_cons_zero, List.getElem?_cons_succ] at z0 z1 z2 z3
        go_wp2_with fail
        refine bodyPost_ret (v := gx.val a' c') (by simp [results, Tryd.results31, go_sem, z0, z1, z2, z3]) rfl ?_
        refine ⟨a', c', by rw [HE.out], ?_, (((HB9.out.setCell (p := ⟨w.heap.size + 1, 0, none⟩) (Nat.le_succ _) _).setCell (p := ⟨w.heap.size + 1, 1, none⟩) (Nat.le_succ _) _).setCell (p := ⟨w.heap.size + 1, 2, none⟩) (Nat.le_succ _) _).setCell (p := ⟨w.heap.size + 1, 3, none⟩) (Nat.le_succ _) _⟩
        rw [HE.out]
        have keep : ∀ (W : World) (u1 u2 u3 u4 : Value) (k : Nat), w.heap.size + 2 ≤ k → ((((W.setCell ⟨w.heap.size + 1, 0, none⟩ u1).setCell ⟨w.heap.size + 1, 1, none⟩ u2).setCell ⟨w.heap.size + 1, 2, none⟩ u3).setCell ⟨w.heap.size + 1, 3, none⟩ u4).heap[k]? = W.heap[k]? := by
          intro W u1 u2 u3 u4 k hk
          rw [Below.heap_setCell _ _ _ _ (by show k ≠ w.heap.size + 1; omega), Below.heap_setCell _ _ _ _ (by show k ≠ w.heap.size + 1; omega), Below.heap_setCell _ _ _ _ (by show k ≠ w.heap.size + 1; omega), Below.heap_setCell _ _ _ _ (by show k ≠ w.heap.size + 1; omega)]
        exact HR9.out.move (fun k hk _ => keep _ _ _ _ _ k (HG2.out k hk)) (fun k hk _ => by have := HG2.out k hk; omega)
end Go.Proofs.YtnegdmhmhdojbaaDoor
