/-
  The law CheckObjects: the objects of a tree are those of the reference.
-/
import Derived.Test.YtnegdmhmhdojbaaDoorRef15o
import Derived.Test.YtnegdmhmhdojbaaDoorChkRefP
import Derived.Test.YtnegdmhmhdojbaaDoorSliceEq
import Derived.Test.YtnegdmhmhdojbaaDoorChkHas
import Derived.Test.YtnegdmhmhdojbaaDoorChkTwiceP
import Derived.Test.YtnegdmhmhdojbaaDoorSmalls
import Derived.Test.YtnegdmhmhdojbaaDoorChkAwake
namespace Go.Proofs.YtnegdmhmhdojbaaDoor
set_option linter.unusedVariables false
set_option linter.unusedSimpArgs false
open Go.RowKit
set_option maxRecDepth 100000
set_option maxHeartbeats 80000000

/-! plain -/
theorem objL_mem : ∀ (l : List (List Int × Tree)) (so : List ByteArray) (s : ByteArray), s ∈ objL so l → s ∈ so ∨ ∃ x ∈ l, x.2.kind = 46 ∧ x.2.name = s
  | [], so, s, h => Or.inl h
  | x :: l, so, s, h => by
    rcases objL_mem l (objN so x.2) s h with h | ⟨y, hy, h1⟩
    · unfold objN at h
      split at h
      · rename_i hc
        simp only [Bool.and_eq_true, decide_eq_true_eq] at hc
        rcases List.mem_append.1 h with h | h
        · exact Or.inl h
        · exact Or.inr ⟨x, by simp, hc.1, (List.mem_singleton.1 h).symm⟩
      · exact Or.inl h
    · exact Or.inr ⟨y, List.mem_cons_of_mem _ hy, h1⟩
theorem lock_shared {p : Prg} {i : Nat} {s : ByteArray} (h : okP p = true) (hi : i < p.tasks.length) (hs : s ∈ objT [] (p.tasks.getD i Tsk.none).body) : memB (p.shared.map (·.name)) s = true := by
  have h1 := (taskF_nil (task_in h hi).2).2
  have h2 := body_sub p (p.tasks.getD i Tsk.none) _ [] rfl
  have h3 : bodyF p (p.tasks.getD i Tsk.none) ((p.tasks.getD i Tsk.none).body.items []) = [] := by rw [← h2]; exact h1
  rcases objL_mem _ _ _ hs with h4 | ⟨x, hx, hk, rfl⟩
  · cases h4
  · unfold bodyF at h3
    have h5 := List.flatMap_eq_nil_iff.1 h3 x hx
    split at h5
    · rename_i h0
      unfold oneP faultN at h0
      rw [hk] at h0
      simp only [show ¬ ((46 : Int) = 2) by decide, show ¬ ((46 : Int) = 3) by decide, show ¬ ((46 : Int) = 42) by decide, if_false, if_true] at h0
      split at h0
      · rename_i h6; exact h6
      · cases h0
    · cases h5
theorem objT_le (t : Tree) : (objT [] t).length ≤ t.size := by
  have h := objL_le (t.items []) []
  rw [its_length] at h
  unfold objT
  simpa using h
theorem objany_mem (l : List Arr) (name : ByteArray) : l.any (fun x => decide (x.name = name)) = memB (l.map (·.name)) name := by
  unfold memB
  rw [List.any_map]
  rfl
/-- the name of a declaration is that name -/
theorem objName_any (name : ByteArray) (nb : Nat) (x : Arr) (w : World) (hn : w.heap[nb]? = some (.cells #[.string name] 9)) :
    Calls Tryd.prog 28 #[.agg #[.string x.name, .int .i64 x.len], .pointer (some ⟨nb, 0, none⟩)] w fun e w' => e = .returned (.bool (decide (x.name = name))) ∧ Below w.heap.size w w' := by
  have c0 := mem_cell hn 0
  simp only [List.getElem?_toArray, List.getElem?_cons_zero] at c0
  have hlt := mem_lt hn
  clear hn
  go_enter Tryd.func28, Tryd.ntmps28
  by_cases h2 : x.name = name
  · have hb2 : (x.name.toList == name.toList) = true := by simp [h2]
    have HE : Hid (decide (x.name = name) = true) := decide_eq_true h2
    clear h2
    go_wp2_with fail
    go_ret
    exact ⟨by rw [HE.out]; rfl, mem_alloc _ _⟩
  · have hb2 : (x.name.toList == name.toList) = false := by
      rw [beq_eq_false_iff_ne]
      exact fun h => h2 (ByteArray.ext (Array.toList_inj.1 (by rw [ByteArray.toList_eq, ByteArray.toList_eq] at h; exact h)))
    have HE : Hid (decide (x.name = name) = false) := decide_eq_false h2
    clear h2
    go_wp2_with fail
    go_ret
    exact ⟨by rw [HE.out]; rfl, mem_alloc _ _⟩
theorem own_free {w : World} {N : Nat} {e : TypeId} {size g m n c : Nat} {xs : List Value} (h : w.ownsRow N e size (.slice (some ⟨g, 0, none⟩) m c) n xs) (i : Nat) : w.frozen? ⟨g, i, none⟩ = false := by
  rcases h.2 with ⟨h1, _⟩ | ⟨g', cap, cur, hv, _, hc, _⟩
  · cases h1
  · cases hv
    simp [World.frozen?, hc]
theorem checkObjects_any (t : Tree) (p : Prg) (w : World) (a sa ta : Option Addr) (c sc tc : Nat) (hr : Rep w t a) (hp : PrgAt w p sa ta) (hg : SignsIn w) (hsz : t.size ≤ 9000000000000000000) :
    Calls Tryd.prog 6 #[t.val a c, p.val sa sc ta tc] w fun e w' => e = .returned (.bool true) ∧ Below w.heap.size w w' := by
  have hsl := hp.1.1
  have htl := hp.2.1
  have hfl := hr.fits.len
  obtain ⟨W0, hW0⟩ : ∃ W : World, w.alloc (boxObj t a c) = W := ⟨_, rfl⟩
  obtain ⟨W, hW⟩ : ∃ W : World, W0.alloc (prgObj p sa sc ta tc) = W := ⟨_, rfl⟩
  have b0 : Below w.heap.size w W0 := by rw [← hW0]; exact mem_alloc _ _
  have b1 : Below W0.heap.size W0 W := by rw [← hW]; exact mem_alloc _ _
  have x0 : W0.heap[w.heap.size]? = some (boxObj t a c) := by rw [← hW0]; exact mem_new _ _
  have x1 : W.heap[W0.heap.size]? = some (prgObj p sa sc ta tc) := by rw [← hW]; exact mem_new _ _
  have HBW : Hid (Below w.heap.size w W) := mem_then b0 b1
  have x2 := mem_keep x0 b1
  have HK : Hid (∀ w', Below W.heap.size W w' → Below w.heap.size w w' ∧ w'.heap[w.heap.size]? = some (boxObj t a c) ∧ w'.cell? ⟨W0.heap.size, 0, none⟩ = some (.slice sa p.shared.length sc) ∧ w'.cell? ⟨W0.heap.size, 1, none⟩ = some (.slice ta p.tasks.length tc) ∧ Rep w' t a ∧ PrgAt w' p sa ta ∧ SignsIn w') := fun w' h => by
    have hb := HBW.out.trans (h.mono HBW.out.size)
    exact ⟨hb, mem_keep x2 h, mem_cell (mem_keep x1 h) 0, mem_cell (mem_keep x1 h) 1, hr.below hb, hp.below hb, hg.below hb⟩
  clear hr hp hg b0 b1 x0 x1 x2
  go_enter Tryd.func6, Tryd.ntmps6
  go_wp2_with fail
  clear hW hW0
  refine (awake15_any W (HK.out W (Below.refl _ _)).2.2.2.2.2.2).mono ?_
  rintro e w1 ⟨rfl, hB1⟩
  have HB1 := Lib.hid hB1
  obtain ⟨_, hx, _, _, hr1, _, _⟩ := HK.out w1 hB1
  have HR1 := Lib.hid hr1
  obtain ⟨⟨z0, z1, z2, z3⟩, _⟩ := blk4 hx
  clear hx hr1 hB1
  go_wp2_with fail
  clear z0 z1 z2 z3
  have h9 := sizeW_any t w1 a c HR1.out
  rw [wrap64_of t.size (by omega)] at h9
  refine h9.mono ?_
  clear h9
  rintro e w2 ⟨rfl, hB2⟩
  have HB2 : Hid (Below W.heap.size W w2) := mem_then HB1.out hB2
  obtain ⟨_, hx, _, _, hr2, _, hg2⟩ := HK.out w2 HB2.out
  have HR2 := Lib.hid hr2
  have HG2 := Lib.hid hg2
  obtain ⟨⟨z0, z1, z2, z3⟩, _⟩ := blk4 hx
  clear hx hr2 hB2 hg2
  by_cases hbig : (120 : Int) < (t.size : Int)
  · have hd : decide ((120 : Int) < (t.size : Int)) = true := decide_eq_true hbig
    clear hbig
    go_wp2_with fail
    refine (awake15_any w2 HG2.out).mono ?_
    rintro e w3 ⟨rfl, hB3⟩
    have HB3 := Lib.hid (HK.out w3 (mem_then HB2.out hB3)).1
    clear hB3
    go_wp2_with fail
    go_ret
    exact ⟨rfl, HB3.out⟩
  have hd : decide ((120 : Int) < (t.size : Int)) = false := decide_eq_false hbig
  have hts : t.size ≤ 120 := by omega
  obtain ⟨l, hl⟩ : ∃ l, objT [] t = l := ⟨_, rfl⟩
  have hll : l.length ≤ 120 := by rw [← hl]; exact Nat.le_trans (objT_le t) hts
  have HOBJ : Hid (∀ w', Below W.heap.size W w' → Calls Tryd.prog 24 #[t.val a c] w' fun e w'' => ∃ v, e = .returned v ∧ NRow w'.heap.size w'' v l ∧ Below w'.heap.size w' w'') := fun w' h => by
    have h9 := objs_any t w' a c (HK.out w' h).2.2.2.2.1 (by omega)
    rw [hl] at h9
    exact h9
  have HREF : Hid (∀ w', Below W.heap.size W w' → Calls Tryd.prog 26 #[t.val a c] w' fun e w'' => ∃ v, e = .returned v ∧ NRow w'.heap.size w'' v l ∧ Below w'.heap.size w' w'') := fun w' h => by
    have h9 := refobjs_any t w' a c (HK.out w' h).2.2.2.2.1 (by omega)
    rw [hl] at h9
    exact h9
  have HEQ : Hid (∀ w' (B1 B2 : Nat) (a1 a2 : Option Addr) (c1 c2 : Nat), NRow B1 w' (.slice a1 l.length c1) l → NRow B2 w' (.slice a2 l.length c2) l → Calls Tryd.prog 25 #[.slice a1 l.length c1, .slice a2 l.length c2] w' fun e w'' => e = .returned (.bool true) ∧ Below w'.heap.size w' w'') := fun w' B1 B2 a1 a2 c1 c2 h1 h2 => by
    have h9 := equalStrs_any l l w' a1 a2 c1 c2 (strs_own h1.row h1.sizes) (strs_own h2.row h2.sizes)
    rw [eqC_self] at h9
    exact h9
  clear hbig hl
  go_wp2_with fail
  clear hd z0 z1 z2 z3
  have h9 := HOBJ.out w2 HB2.out
  refine h9.mono ?_
  clear h9
  rintro e w3 ⟨v3, rfl, h3, hB3⟩
  have HN3 : Hid (NRow W.heap.size w3 v3 l) := h3.base HB2.out.size
  obtain ⟨va, vc, rfl⟩ := own_val h3.row
  have HB3 : Hid (Below W.heap.size W w3) := mem_then HB2.out hB3
  obtain ⟨_, hx, _⟩ := HK.out w3 HB3.out
  obtain ⟨⟨z0, z1, z2, z3⟩, _⟩ := blk4 hx
  clear hx h3 hB3
  go_wp2_with fail
  clear z0 z1 z2 z3
  have h9 := HREF.out w3 HB3.out
  refine h9.mono ?_
  clear h9
  rintro e w4 ⟨v4, rfl, h4, hB4⟩
  have HN4 : Hid (NRow W.heap.size w4 v4 l) := h4.base HB3.out.size
  obtain ⟨vb, vd, rfl⟩ := own_val h4.row
  have HN34 := Lib.hid (HN3.out.keep hB4)
  have HB4 : Hid (Below W.heap.size W w4) := mem_then HB3.out hB4
  clear h4 hB4
  go_wp2_with fail
  have h9 := HEQ.out w4 _ _ va vb vc vd HN34.out HN4.out
  refine h9.mono ?_
  clear h9
  rintro e w5 ⟨rfl, hB5⟩
  have HN35 := Lib.hid (HN34.out.keep hB5)
  have HB5 : Hid (Below W.heap.size W w5) := mem_then HB4.out hB5
  clear hB5
  go_wp2_with fail
  go_loopw [6, 28] (fun _ iv wr => ∃ (k : Nat) (xs : List ByteArray), k ≤ l.length ∧ iv = .int .i64 (k : Int) ∧ xs.length = l.length ∧ wr.ownsRow W.heap.size 9 1 (.slice va l.length vc) l.length (xs.map Value.string) ∧ Below W.heap.size W wr) (fun _ iv _ => l.length - (intOf iv).toNat)
  case atStart => exact ⟨0, l, Nat.zero_le _, rfl, rfl, HN35.out.row, HB5.out⟩
  case round =>
    obtain ⟨k, xs, hk, rfl, hxl, hown, hBr⟩ := hrel
    have HXL := Lib.hid hxl
    have HOWN := Lib.hid hown
    have HBK := Lib.hid hBr
    have hk0 : (0 : Int) ≤ (k : Int) := by omega
    clear hxl hBr
    by_cases hlk : k < l.length
    · have hlk2 : (k : Int) < (l.length : Int) := by omega
      obtain ⟨g, rfl, hgW, _⟩ := own_at hown (by omega)
      have f0 := own_free hown k
      obtain ⟨x, hx⟩ : ∃ x, xs[k]? = some x := ⟨_, List.getElem?_eq_getElem (by rw [HXL.out]; exact hlk)⟩
      have f1 : wr.cell? ⟨g, k, none⟩ = some (.string x) := own_get hown (by rw [List.getElem?_map, hx]; rfl)
      have HSET : Hid ((wr.setCell ⟨g, k, none⟩ (.string ⟨#[63]⟩)).ownsRow W.heap.size 9 1 (.slice (some ⟨g, 0, none⟩) l.length vc) l.length ((xs.set k ⟨#[63]⟩).map Value.string)) := by
        have h := ownsRow_set (u := .string ⟨#[63]⟩) hown (by omega : k < l.length * 1)
        show World.ownsRow _ _ _ _ _ _ _
        rw [List.map_set]
        exact h
      have HBS : Hid (Below W.heap.size W (wr.setCell ⟨g, k, none⟩ (.string ⟨#[63]⟩))) := HBK.out.setCell hgW _
      clear hown hgW hx
      go_wp2_with fail
      clear f0 f1
      go_roundw
      case rel => exact ⟨k + 1, xs.set k ⟨#[63]⟩, by omega, by go_num, by rw [List.length_set]; exact HXL.out, HSET.out, HBS.out⟩
      case measure => simp [intOf]; omega
    · obtain rfl : k = l.length := by omega
      obtain ⟨w6, hw6⟩ : ∃ w6 : World, w6 = wr := ⟨_, rfl⟩
      rw [← hw6] at HBK ⊢
      clear hown hw6
      obtain ⟨cb, hcb⟩ : ∃ b, cleanP p = b := ⟨_, rfl⟩
      have HCB := Lib.hid hcb
      have HCL : Hid (∀ w', Below W.heap.size W w' → Calls Tryd.prog 20 #[.agg #[.slice sa p.shared.length sc, .slice ta p.tasks.length tc]] w' fun e w'' => e = .returned (.bool cb) ∧ Below w'.heap.size w' w'') := fun w' h => by
        have h9 := clean_any p w' sa ta sc tc (HK.out w' h).2.2.2.2.2.1 (HK.out w' h).2.2.2.2.2.2
        rw [hcb] at h9
        exact h9
      clear hcb
      go_wp2_with fail
      refine cut_runA (RunEndV 35 10 (.bool (!cb)) (fun w' => Below W.heap.size W w')) ?_ ?_
      · refine wp_region_held_drew (S := fun w' => Below W.heap.size W w') (by kernel_rfl) (HBK.out.drew) (fun hHeld => ?_)
        generalize hwd : World.drew _ = v0 at hHeld ⊢
        clear hwd
        refine wpAnyH_take (i := 0) (v := t.val a c) rfl (by kernel_rfl) (by kernel_rfl) (by kernel_rfl) (fun _ _ _ h => h) (Or.inl ⟨by rfl, ?_⟩) (by assumption) ?_
        · intro w' hSw; obtain ⟨_, hx, _⟩ := HK.out _ hSw; obtain ⟨⟨z0, z1, z2, z3⟩, _⟩ := blk4 hx; clear hx; go_simp
        (try simp only [Act.put, List.getElem_toArray, List.getElem_cons_zero, List.setIfInBounds_toArray, List.set_cons_zero, List.set_cons_succ])
        refine wpAnyH_take (i := 2) (v := t.val a c) rfl (by kernel_rfl) (by kernel_rfl) (by kernel_rfl) (fun _ _ _ h => h) (Or.inl ⟨by rfl, ?_⟩) (by assumption) ?_
        · intro w' hSw; obtain ⟨_, hx, _⟩ := HK.out _ hSw; obtain ⟨⟨z0, z1, z2, z3⟩, _⟩ := blk4 hx; clear hx; go_simp
        (try simp only [Act.put, List.getElem_toArray, List.getElem_cons_zero, List.getElem_cons_succ, List.setIfInBounds_toArray, List.set_cons_zero, List.set_cons_succ])
        refine wpAnyH_ready (rs := [1]) (by kernel_rfl) (by simp) (AllReadyH.cons rfl (fun K hK => ?_) AllReadyH.nil)
        go_simp
        have h9 := HOBJ.out v0 hHeld
        refine h9.mono ?_
        clear h9
        rintro e w7 ⟨v7, rfl, h7, hB7⟩
        obtain ⟨a7, c7, rfl⟩ := own_val h7.row
        have HN7 := Lib.hid h7
        have HB7 := Lib.hid (mem_then hHeld hB7)
        clear h7 hB7
        refine hK.out _ _ (HB7.out) (fun hHeld => ?_)
        clear hK K
        rename_i hOld
        clear hOld
        (try simp only [Act.put, List.getElem_toArray, List.getElem_cons_zero, List.getElem_cons_succ, List.setIfInBounds_toArray, List.set_cons_zero, List.set_cons_succ])
        refine wpAnyH_ready (rs := [3]) (by kernel_rfl) (by simp) (AllReadyH.cons rfl (fun K hK => ?_) AllReadyH.nil)
        go_simp
        have h9 := HREF.out w7 HB7.out
        refine h9.mono ?_
        clear h9
        rintro e w8 ⟨v8, rfl, h8, hB8⟩
        obtain ⟨a8, c8, rfl⟩ := own_val h8.row
        have HN8 := Lib.hid h8
        have HN78 := Lib.hid (HN7.out.keep hB8)
        have HB8 := Lib.hid (mem_then HB7.out hB8)
        clear h8 hB8
        refine hK.out _ _ (HB8.out) (fun hHeld => ?_)
        clear hK K
        rename_i hOld
        clear hOld
        (try simp only [Act.put, List.getElem_toArray, List.getElem_cons_zero, List.getElem_cons_succ, List.setIfInBounds_toArray, List.set_cons_zero, List.set_cons_succ])
        refine wpAnyH_ready (rs := [4]) (by kernel_rfl) (by simp) (AllReadyH.cons rfl (fun K hK => ?_) AllReadyH.nil)
        go_simp
        have h9 := HEQ.out w8 _ _ a7 a8 c7 c8 HN78.out HN8.out
        refine h9.mono ?_
        clear h9
        rintro e w9 ⟨rfl, hB9⟩
        have HB9 := Lib.hid (mem_then HB8.out hB9)
        clear hB9
        refine hK.out _ _ (HB9.out) (fun hHeld => ?_)
        clear hK K
        rename_i hOld
        clear hOld
        (try simp only [Act.put, List.getElem_toArray, List.getElem_cons_zero, List.getElem_cons_succ, List.setIfInBounds_toArray, List.set_cons_zero, List.set_cons_succ])
        refine wpAnyH_take (i := 5) (v := .bool false) rfl (by kernel_rfl) (by kernel_rfl) (by kernel_rfl) (fun _ _ _ h => h) (Or.inl ⟨by rfl, ?_⟩) (by assumption) ?_
        · intro w' hSw; go_simp
        (try simp only [Act.put, List.getElem_toArray, List.getElem_cons_zero, List.getElem_cons_succ, List.setIfInBounds_toArray, List.set_cons_zero, List.set_cons_succ])
        refine wpAnyH_take (i := 6) (v := .bool false) rfl (by kernel_rfl) (by kernel_rfl) (by kernel_rfl) (fun _ _ _ h => h) (Or.inl ⟨by rfl, ?_⟩) (by assumption) ?_
        · intro w' hSw; go_simp
        (try simp only [Act.put, List.getElem_toArray, List.getElem_cons_zero, List.getElem_cons_succ, List.setIfInBounds_toArray, List.set_cons_zero, List.set_cons_succ])
        refine wpAnyH_take (i := 7) (v := .agg #[.slice sa p.shared.length sc, .slice ta p.tasks.length tc]) rfl (by kernel_rfl) (by kernel_rfl) (by kernel_rfl) (fun _ _ _ h => h) (Or.inl ⟨by rfl, ?_⟩) (by assumption) ?_
        · intro w' hSw; obtain ⟨_, _, z0, z1, _⟩ := HK.out _ hSw; go_simp
        (try simp only [Act.put, List.getElem_toArray, List.getElem_cons_zero, List.getElem_cons_succ, List.setIfInBounds_toArray, List.set_cons_zero, List.set_cons_succ])
        refine wpAnyH_ready (rs := [8]) (by kernel_rfl) (by simp) (AllReadyH.cons rfl (fun K hK => ?_) AllReadyH.nil)
        go_simp
        have h9 := HCL.out w9 HB9.out
        refine h9.mono ?_
        clear h9
        rintro e w10 ⟨rfl, hB10⟩
        have HB10 := Lib.hid (mem_then HB9.out hB10)
        clear hB10
        refine hK.out _ _ (HB10.out) (fun hHeld => ?_)
        clear hK K
        rename_i hOld
        clear hOld
        (try simp only [Act.put, List.getElem_toArray, List.getElem_cons_zero, List.getElem_cons_succ, List.setIfInBounds_toArray, List.set_cons_zero, List.set_cons_succ])
        refine wpAnyH_ready (rs := [9]) (by kernel_rfl) (by simp) (AllReadyH.cons rfl (fun K hK => ?_) AllReadyH.nil)
        go_simp
        refine hK.out _ _ (HB10.out) (fun hHeld => ?_)
        clear hK K
        rename_i hOld
        clear hOld
        (try simp only [Act.put, List.getElem_toArray, List.getElem_cons_zero, List.getElem_cons_succ, List.setIfInBounds_toArray, List.set_cons_zero, List.set_cons_succ])
        refine wpAnyH_ready (rs := [10]) (by kernel_rfl) (by simp) (AllReadyH.cons rfl (fun K hK => ?_) AllReadyH.nil)
        go_simp
        refine hK.out _ _ (HB10.out) (fun hHeld => ?_)
        clear hK K
        rename_i hOld
        clear hOld
        (try simp only [Act.put, List.getElem_toArray, List.getElem_cons_zero, List.getElem_cons_succ, List.setIfInBounds_toArray, List.set_cons_zero, List.set_cons_succ])
        refine wpAnyH_done (by kernel_rfl) ?_ _
        exact ⟨[_, _, _, _, _, _, _, _, _, _], rfl, (by simp only [List.cons_append, List.nil_append, putAll, List.setIfInBounds_toArray, List.set_cons_zero, List.set_cons_succ]; rfl), HB10.out⟩
      · rintro a' w7 ⟨ll, hll2, rfl, hB7⟩
        obtain ⟨l0, l1, l2, l3, l4, l5, l6, l7, l8, l9, rfl⟩ := list10 hll2
        simp only [List.cons_append, List.nil_append, putAll, List.setIfInBounds_toArray, List.set_cons_zero, List.set_cons_succ]
        have HB7 := Lib.hid hB7
        clear hll2 hB7
        cases cb with
        | false =>
          go_wp2_with fail
          refine cut_runA (RunEnd3 46 5 4 (fun v w' => v = .bool true ∧ Below W.heap.size W w')) ?_ ?_
          · refine wp_region_held_drew (S := fun w' => Below W.heap.size W w') (by kernel_rfl) (HB7.out.drew) (fun hHeld => ?_)
            generalize hwd : World.drew _ = v0 at hHeld ⊢
            clear hwd
            refine wpAnyH_take (i := 0) (v := t.val a c) rfl (by kernel_rfl) (by kernel_rfl) (by kernel_rfl) (fun _ _ _ h => h) (Or.inl ⟨by rfl, ?_⟩) (by assumption) ?_
            · intro w' hSw; obtain ⟨_, hx, _⟩ := HK.out _ hSw; obtain ⟨⟨z0, z1, z2, z3⟩, _⟩ := blk4 hx; clear hx; go_simp
            (try simp only [Act.put, List.getElem_toArray, List.getElem_cons_zero, List.setIfInBounds_toArray, List.set_cons_zero, List.set_cons_succ])
            refine wpAnyH_take (i := 2) (v := t.val a c) rfl (by kernel_rfl) (by kernel_rfl) (by kernel_rfl) (fun _ _ _ h => h) (Or.inl ⟨by rfl, ?_⟩) (by assumption) ?_
            · intro w' hSw; obtain ⟨_, hx, _⟩ := HK.out _ hSw; obtain ⟨⟨z0, z1, z2, z3⟩, _⟩ := blk4 hx; clear hx; go_simp
            (try simp only [Act.put, List.getElem_toArray, List.getElem_cons_zero, List.getElem_cons_succ, List.setIfInBounds_toArray, List.set_cons_zero, List.set_cons_succ])
            refine wpAnyH_ready (rs := [1]) (by kernel_rfl) (by simp) (AllReadyH.cons rfl (fun K hK => ?_) AllReadyH.nil)
            go_simp
            have h9 := HOBJ.out v0 hHeld
            refine h9.mono ?_
            clear h9
            rintro e w8 ⟨v7, rfl, h7, hB8⟩
            obtain ⟨a7, c7, rfl⟩ := own_val h7.row
            have HN7 := Lib.hid h7
            have HB8 := Lib.hid (mem_then hHeld hB8)
            clear h7 hB8
            refine hK.out _ _ (HB8.out) (fun hHeld => ?_)
            clear hK K
            rename_i hOld
            clear hOld
            (try simp only [Act.put, List.getElem_toArray, List.getElem_cons_zero, List.getElem_cons_succ, List.setIfInBounds_toArray, List.set_cons_zero, List.set_cons_succ])
            refine wpAnyH_ready (rs := [3]) (by kernel_rfl) (by simp) (AllReadyH.cons rfl (fun K hK => ?_) AllReadyH.nil)
            go_simp
            have h9 := HREF.out w8 HB8.out
            refine h9.mono ?_
            clear h9
            rintro e w9 ⟨v8, rfl, h8, hB9⟩
            obtain ⟨a8, c8, rfl⟩ := own_val h8.row
            have HN8 := Lib.hid h8
            have HN78 := Lib.hid (HN7.out.keep hB9)
            have HB9 := Lib.hid (mem_then HB8.out hB9)
            clear h8 hB9
            refine hK.out _ _ (HB9.out) (fun hHeld => ?_)
            clear hK K
            rename_i hOld
            clear hOld
            (try simp only [Act.put, List.getElem_toArray, List.getElem_cons_zero, List.getElem_cons_succ, List.setIfInBounds_toArray, List.set_cons_zero, List.set_cons_succ])
            refine wpAnyH_ready (rs := [4]) (by kernel_rfl) (by simp) (AllReadyH.cons rfl (fun K hK => ?_) AllReadyH.nil)
            go_simp
            have h9 := HEQ.out w9 _ _ a7 a8 c7 c8 HN78.out HN8.out
            refine h9.mono ?_
            clear h9
            rintro e w10 ⟨rfl, hB10⟩
            have HB10 := Lib.hid (mem_then HB9.out hB10)
            clear hB10
            refine hK.out _ _ (HB10.out) (fun hHeld => ?_)
            clear hK K
            rename_i hOld
            clear hOld
            (try simp only [Act.put, List.getElem_toArray, List.getElem_cons_zero, List.getElem_cons_succ, List.setIfInBounds_toArray, List.set_cons_zero, List.set_cons_succ])
            refine wpAnyH_ready (rs := [5]) (by kernel_rfl) (by simp) (AllReadyH.cons rfl (fun K hK => ?_) AllReadyH.nil)
            go_simp
            refine hK.out _ _ (HB10.out) (fun hHeld => ?_)
            clear hK K
            rename_i hOld
            clear hOld
            (try simp only [Act.put, List.getElem_toArray, List.getElem_cons_zero, List.getElem_cons_succ, List.setIfInBounds_toArray, List.set_cons_zero, List.set_cons_succ])
            refine wpAnyH_done (by kernel_rfl) ?_ _
            exact ⟨[_, _, _, _, _], _, rfl, (by simp only [putAll, List.setIfInBounds_toArray, List.set_cons_zero, List.set_cons_succ]; rfl), rfl, HB10.out⟩
          · rintro a' w8 ⟨ll, vv, hll2, rfl, rfl, hB8⟩
            obtain ⟨y0, y1, y2, y3, y4, rfl⟩ := list5 hll2
            simp only [List.cons_append, List.nil_append, putAll, List.setIfInBounds_toArray, List.set_cons_zero, List.set_cons_succ]
            have HB8 := Lib.hid (HK.out _ hB8).1
            clear hll2 hB8
            go_wp2_with fail
            go_ret
            exact ⟨rfl, HB8.out⟩
        | true =>
          simp only [Bool.not_true]
          have HOK : Hid (okP p = true) := by
            have h := HCB.out
            unfold cleanP at h
            simp only [Bool.and_eq_true] at h
            exact h.2
          have HTL : Hid (p.tasks.length ≤ 8 ∧ ∀ j, j < p.tasks.length → tskOk (p.tasks.getD j Tsk.none) = true) := (prgOk_le (okP_parts HOK.out).1).2
          have ht8 := HTL.out.1
          obtain ⟨_, _, _, z1, _⟩ := HK.out w7 HB7.out
          go_wp2_with fail
          clear z1
          go_loopw [54] (fun iv wr => ∃ k : Nat, k ≤ p.tasks.length ∧ iv = .int .i64 (k : Int) ∧ Below W.heap.size W wr) (fun iv _ => p.tasks.length - (intOf iv).toNat)
          case atStart => exact ⟨0, Nat.zero_le _, rfl, HB7.out⟩
          case round =>
            obtain ⟨k, hk, rfl, hBr⟩ := hrel
            have HBK := Lib.hid hBr
            have hk0 : (0 : Int) ≤ (k : Int) := by omega
            clear hBr
            by_cases hlk : k < p.tasks.length
            · have hlk2 : (k : Int) < (p.tasks.length : Int) := by omega
              obtain ⟨wo, hwo⟩ : ∃ wo : World, wo = wr := ⟨_, rfl⟩
              rw [← hwo] at HBK ⊢
              obtain ⟨_, _, _, _, _, hpg, _⟩ := HK.out wo HBK.out
              obtain ⟨tb, tf, q, rfl, hc, hin⟩ := hpg.2.2 k hlk
              obtain ⟨s, hs⟩ : ∃ s, p.tasks.getD k Tsk.none = s := ⟨_, rfl⟩
              have HTK : Hid (tskOk s = true) := by show _ = _; rw [← hs]; exact HTL.out.2 k hlk
              rw [hs] at hc hin
              obtain ⟨⟨g0, g1, g2, g3, g4, g5, g6, g7⟩, _⟩ := tsk_cells (Below.refl _ _) hc
              obtain ⟨D, hD⟩ : ∃ D : World, wo.alloc (tskObj s q) = D := ⟨_, rfl⟩
              have hBD : Below wo.heap.size wo D := by rw [← hD]; exact mem_alloc _ _
              have hX : D.heap[wo.heap.size]? = some (tskObj s q) := by rw [← hD]; exact mem_new _ _
              have HBD : Hid (Below W.heap.size W D) := mem_then HBK.out hBD
              have y4 := mem_cell hX 4
              have y5 := mem_cell hX 5
              have y6 := mem_cell hX 6
              have y7 := mem_cell hX 7
              simp only [Tsk.cells, List.getElem?_toArray, List.getElem?_cons_zero, List.getElem?_cons_succ] at y4 y5 y6 y7
              have HLS : Hid (∀ x ∈ objT [] s.body, memB (p.shared.map (·.name)) x = true) := fun x hx => lock_shared HOK.out hlk (by rw [hs]; exact hx)
              have hsz4 : s.body.size ≤ 400 := (tskOk_le HTK.out).2.2
              have h8 := objs_any s.body D q.ka q.kc (hin.below hBD).body (by omega)
              obtain ⟨m, hm⟩ : ∃ m, objT [] s.body = m := ⟨_, rfl⟩
              have hml : m.length ≤ 400 := by rw [← hm]; exact Nat.le_trans (objT_le _) hsz4
              rw [hm] at h8 HLS
              have H8 := Lib.hid h8
              clear hc hin hs hX hBD h8 hm hwo hpg
              go_wp2_with fail
              clear g0 g1 g2 g3 g4 g5 g6 g7 y4 y5 y6 y7 hD
              have h9 := H8.out
              refine h9.mono ?_
              clear h9
              rintro e w8 ⟨v8, rfl, h8, hB8⟩
              obtain ⟨a8, c8, rfl⟩ := own_val h8.row
              have HN8 := Lib.hid h8
              have HB8 : Hid (Below W.heap.size W w8) := mem_then HBD.out hB8
              clear h8 hB8
              go_wp2_with fail
              go_loopw [62] (fun iv wq => ∃ i : Nat, i ≤ m.length ∧ iv = .int .i64 (i : Int) ∧ Below w8.heap.size w8 wq) (fun iv _ => m.length - (intOf iv).toNat)
              case atStart => exact ⟨0, Nat.zero_le _, rfl, Below.refl _ _⟩
              case round =>
                obtain ⟨i, hi, rfl, hBi⟩ := hrel
                have HBI := Lib.hid hBi
                have hi0 : (0 : Int) ≤ (i : Int) := by omega
                by_cases hli : i < m.length
                · have hli2 : (i : Int) < (m.length : Int) := by omega
                  have hrow := (HN8.out.keep hBi).row
                  obtain ⟨gb, rfl, _, _⟩ := own_at hrow (by omega)
                  obtain ⟨x, hx⟩ : ∃ x, m[i]? = some x := ⟨_, List.getElem?_eq_getElem hli⟩
                  have f0 : wr.cell? ⟨gb, i, none⟩ = some (.string x) := own_get hrow (by rw [List.getElem?_map, hx]; rfl)
                  have HX : Hid (memB (p.shared.map (·.name)) x = true) := HLS.out x (List.mem_of_getElem? hx)
                  obtain ⟨E, hE⟩ : ∃ E : World, wr.alloc (.cells #[.string x] 9) = E := ⟨_, rfl⟩
                  have hBE : Below wr.heap.size wr E := by rw [← hE]; exact mem_alloc _ _
                  have HXE : Hid (E.heap[wr.heap.size]? = some (.cells #[.string x] 9)) := by show _ = _; rw [← hE]; exact mem_new _ _
                  have HBE : Hid (Below w8.heap.size w8 E) := mem_then hBi hBE
                  obtain ⟨_, _, z0, _, _, hpg, _⟩ := HK.out E (mem_then HB8.out HBE.out)
                  have h8 := has_any (fun y => decide (y.name = x)) 28 #[.pointer (some ⟨wr.heap.size, 0, none⟩)] (enters_of Tryd.func28 (by kernel_rfl) rfl) p.shared E sa sc hpg.1 (fun y W' hb => objName_any x wr.heap.size y W' (mem_keep HXE.out hb))
                  rw [objany_mem, HX.out] at h8
                  have H8 := Lib.hid h8
                  clear hrow hBi hx hBE hpg h8
                  go_wp2_with fail
                  clear hE z0 f0
                  have h9 := H8.out
                  refine h9.mono ?_
                  clear h9
                  rintro e w9 ⟨rfl, hB9⟩
                  have HB9 : Hid (Below w8.heap.size w8 w9) := mem_then HBE.out hB9
                  clear hB9
                  go_wp2_with fail
                  go_roundw
                  case rel => exact ⟨i + 1, by omega, by go_num, HB9.out⟩
                  case measure => simp [intOf]; omega
                · obtain rfl : i = m.length := by omega
                  have HBZ : Hid (Below W.heap.size W wr) := mem_then HB8.out hBi
                  clear hBi
                  go_wp2_with fail
                  go_roundw
                  case rel => exact ⟨k + 1, by omega, by go_num, HBZ.out⟩
                  case measure => simp [intOf]; omega
            · obtain rfl : k = p.tasks.length := by omega
              have HEND := Lib.hid (HK.out _ HBK.out).1
              go_wp2_with fail
              go_ret
              exact ⟨rfl, HEND.out⟩
end Go.Proofs.YtnegdmhmhdojbaaDoor
