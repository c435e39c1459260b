/-
  The statement AstWalk, walked (package ontimelaw12), over the contract of awake.
-/
import Derived.Test.YtfkegjdgbnkicaaDoorAstWalk
import Derived.Test.YtfkegjdgbnkicaaDoorKept
import Derived.Test.YtfkegjdgbnkicaaDoorRoundBox
import Derived.Test.YtfkegjdgbnkicaaDoorLawKinds
import Derived.Test.YtfkegjdgbnkicaaDoorRefPaths
import Derived.Test.YtfkegjdgbnkicaaDoorRefAt
import Derived.Test.YtfkegjdgbnkicaaDoorRefEqual
import Derived.Test.YtfkegjdgbnkicaaDoorLawInts
import Derived.Laws.EntriesVeiled
import Derived.WalkLawsBesides
import Derived.BigGuardIn
import Derived.BigRegionIn
import Derived.Deep.RegionHeld3
import Derived.IntWalk
import Derived.Maps.OwnIn
namespace Go.Proofs.YtfkegjdgbnkicaaDoor
open Go.RowKit
set_option maxRecDepth 100000
attribute [local go_sem] Oper.semAt_some undef

/-- the frame of a round -/
def WkM (L : Nat) (T : Array Value) (B : Nat → Prop) (x : List Int × Tree) (a' : Act) (W : World) : Prop :=
  ∃ v a c bx, a' = { tmps := (((T.setIfInBounds 23 v).setIfInBounds 24 (x.2.val a c)).setIfInBounds 7 v).setIfInBounds 8 (.pointer (some ⟨bx, 0, none⟩)), defers := [] } ∧
    PathIn (fun k => ¬ (B k ∨ (L ≤ k ∧ k ≤ L + 1))) W v x.1 ∧ RepIn (fun k => ¬ (B k ∨ (L ≤ k ∧ k ≤ L + 1))) W x.2 a ∧ W.heap[bx]? = some (boxObj x.2 a c) ∧ L + 2 ≤ bx
theorem WkM.keep {L : Nat} {T : Array Value} {B : Nat → Prop} {x : List Int × Tree} {a' : Act} {A C : World} (h : WkM L T B x a' A) (hk : Keep (fun k => L ≤ k ∧ k ≤ L + 1) A C) : WkM L T B x a' C := by
  obtain ⟨v, a, c, bx, h1, h2, h3, h4, h5⟩ := h
  exact ⟨v, a, c, bx, h1, h2.move hk.size (fun k hS hl => hk.block k (fun h => hS (.inr h)) hl) (fun _ h _ => h), h3.move (fun k hS hl => hk.block k (fun h => hS (.inr h)) hl) (fun _ h _ => h),
    (hk.block bx (fun h => by have := h.2; omega) (Array.getElem?_eq_some_iff.1 h4).1).trans h4, h5⟩
/-- what region 12 keeps -/
structure WkS (t : Tree) (a : Option Addr) (c N : Nat) (W w' : World) : Prop where
  box : w'.heap[N]? = some (boxObj t a c)
  bel : Below W.heap.size W w'
theorem WkS.next {t : Tree} {a : Option Addr} {c N : Nat} {W w1 w2 : World} (h : WkS t a c N W w1) (hB : Below w1.heap.size w1 w2) : WkS t a c N W w2 :=
  ⟨(hB.block _ (Array.getElem?_eq_some_iff.1 h.box).1).trans h.box, h.bel.trans (hB.mono h.bel.size)⟩
theorem WkS.put {t : Tree} {a : Option Addr} {c N : Nat} {W w1 : World} {v0 v1 v2 v3 : Value} (h : WkS t a c N W w1) (hN : N < W.heap.size) : WkS t a c N W (set4 w1 W.heap.size v0 v1 v2 v3) :=
  ⟨(set4_other (by omega)).trans h.box, set4_below h.bel (Nat.le_refl _)⟩
/-- what region 12 leaves -/
def WkR (W : World) (T : Array Value) (tv wv kv kn gv pv : Value) (u : Tree) (a' : Act) (w' : World) : Prop :=
  ∃ bb a6 c6, a' = { tmps := (((((((((((T.setIfInBounds 31 tv).setIfInBounds 32 wv).setIfInBounds 33 kv).setIfInBounds 34 kn).setIfInBounds 35 gv).setIfInBounds 36 pv).setIfInBounds 37 (.tuple #[u.val a6 c6, .bool true])).setIfInBounds 30 (.tuple #[u.val a6 c6, .bool true])).setIfInBounds 38 (u.val a6 c6)).setIfInBounds 39 (.bool true)).setIfInBounds 9 (.pointer (some ⟨bb, 0, none⟩))).setIfInBounds 10 (.bool true), defers := [] } ∧
    w'.heap[bb]? = some (boxObj u a6 c6) ∧ Rep w' u a6 ∧ Below W.heap.size W w' ∧ W.heap.size ≤ bb
abbrev zeroNode : Obj := .cells #[.int .u8 0, .int .i64 0, .string ⟨#[]⟩, .slice none 0 0] 24
theorem two_heap1 {w : World} {o o' : Obj} : ((w.alloc o).alloc o').heap[w.heap.size]? = some o := by
  rw [Below.heap_alloc _ _ _ (by simp)]; exact World.alloc_heap_new w _
theorem pre_at {α : Type} {pre l : List α} {x : α} (h : pre ++ [x] <+: l) : l[pre.length]? = some x ∧ pre.length < l.length := by
  obtain ⟨r, rfl⟩ := h; simp
theorem cell_bel {w w' : World} {b o : Nat} {v : Value} (hb : Below w.heap.size w w') (h : w.cell? ⟨b, o, none⟩ = some v) : w'.cell? ⟨b, o, none⟩ = some v :=
  (hb.cell (p := ⟨b, o, none⟩) (World.block_lt_of_cell? w _ h)).trans h

theorem cmp_next {A w' w'' : World} {b1 b2 b3 b4 o1 o2 o3 o4 : Nat} {v1 v2 v3 v4 : Value} (h : Below A.heap.size A w' ∧ w'.cell? ⟨b1, o1, none⟩ = some v1 ∧ w'.cell? ⟨b2, o2, none⟩ = some v2 ∧ w'.cell? ⟨b3, o3, none⟩ = some v3 ∧ w'.cell? ⟨b4, o4, none⟩ = some v4) (hB : Below w'.heap.size w' w'') :
    Below A.heap.size A w'' ∧ w''.cell? ⟨b1, o1, none⟩ = some v1 ∧ w''.cell? ⟨b2, o2, none⟩ = some v2 ∧ w''.cell? ⟨b3, o3, none⟩ = some v3 ∧ w''.cell? ⟨b4, o4, none⟩ = some v4 :=
  ⟨h.1.trans (hB.mono h.1.size), cell_bel hB h.2.1, cell_bel hB h.2.2.1, cell_bel hB h.2.2.2.1, cell_bel hB h.2.2.2.2⟩
theorem cmp_bel {A w' : World} {X : Prop} (h : Below A.heap.size A w' ∧ X) : Below A.heap.size A w' := h.1

/-- ahead of each round of the second loop: at block M: the number to stop at; at the next: the count -/
structure WkJ (M most : Nat) (pre : List (List Int × Tree)) (W : World) : Prop where
  m : W.heap[M]? = some (.cells #[.int .i64 (most : Nat)] 3 (0, 0))
  k : W.heap[M + 1]? = some (.cells #[.int .i64 (pre.length : Nat)] 3 (0, 0))
  lt : pre.length < most
structure WkX (M most : Nat) (W : World) : Prop where
  m : W.heap[M]? = some (.cells #[.int .i64 (most : Nat)] 3 (0, 0))
  k : W.heap[M + 1]? = some (.cells #[.int .i64 (most : Nat)] 3 (0, 0))
theorem WkJ.keep {M most L : Nat} {pre : List (List Int × Tree)} {A C : World} (h : WkJ M most pre A) (hL : M + 2 ≤ L) (hk : Keep (fun k => L ≤ k ∧ k ≤ L + 1) A C) : WkJ M most pre C :=
  ⟨(hk.block _ (fun q => by have := q.1; omega) (Array.getElem?_eq_some_iff.1 h.m).1).trans h.m, (hk.block _ (fun q => by have := q.1; omega) (Array.getElem?_eq_some_iff.1 h.k).1).trans h.k, h.lt⟩
theorem WkX.keep {M most L : Nat} {A C : World} (h : WkX M most A) (hL : M + 2 ≤ L) (hk : Keep (fun k => L ≤ k ∧ k ≤ L + 1) A C) : WkX M most C :=
  ⟨(hk.block _ (fun q => by have := q.1; omega) (Array.getElem?_eq_some_iff.1 h.m).1).trans h.m, (hk.block _ (fun q => by have := q.1; omega) (Array.getElem?_eq_some_iff.1 h.k).1).trans h.k⟩
/-- the frame of a round of the second loop -/
def WkN (_ : Nat) (T : Array Value) (x : List Int × Tree) (a' : Act) (_ : World) : Prop :=
  ∃ v a c, a' = { tmps := (T.setIfInBounds 77 v).setIfInBounds 78 (x.2.val a c), defers := [] }

theorem WkJ.leave {M most : Nat} {pre : List (List Int × Tree)} {W : World} (h : WkJ M most pre W) (hl : pre.length + 1 = most) : WkX M most (W.setCell ⟨M + 1, 0, none⟩ (.int .i64 ((pre.length : Int) + 1))) := by
  subst hl
  exact ⟨(Below.heap_setCell _ _ _ _ (by show M ≠ M + 1; omega)).trans h.m, one_setCell h.k⟩
theorem WkJ.more {M most : Nat} {pre : List (List Int × Tree)} {x : List Int × Tree} {W : World} (h : WkJ M most pre W) (hl : pre.length + 1 < most) : WkJ M most (pre ++ [x]) (W.setCell ⟨M + 1, 0, none⟩ (.int .i64 ((pre.length : Int) + 1))) := by
  refine ⟨(Below.heap_setCell _ _ _ _ (by show M ≠ M + 1; omega)).trans h.m, ?_, by rw [List.length_append]; exact hl⟩
  rw [one_setCell h.k, List.length_append]
  rfl
/-- the return of the law, its answer laid, behind both loops -/
theorem walk_end {w Wh : World} {D D' : Nat} {T : Array Value} (hr : Wh.heap[w.heap.size + 1]? = some (.cells #[.bool false] 4)) (hD : Wh.heap[D]? = some (.deferred (some []))) (hD' : Wh.heap[D']? = some (.deferred (some []))) (hB : Below w.heap.size w Wh) (h1 : w.heap.size + 1 < D) (h2 : w.heap.size + 1 < D') (h3 : D' < D)
    (hT : T[4]? = some (.pointer (some ⟨w.heap.size + 1, 0, none⟩)) := by rfl) :
    bodyPostM Fence.wide 0 Tryd.prog Tryd.f5 (fun e w' => e = .returned (.bool true) ∧ Below w.heap.size w w') .ret { tmps := T, defers := [{ target := .collected D, args := #[] }, { target := .collected D', args := #[] }] } (Wh.setCell ⟨w.heap.size + 1, 0, none⟩ (.bool true)) := by
  have hE : (Wh.setCell ⟨w.heap.size + 1, 0, none⟩ (.bool true)).heap[D]? = some (.deferred (some [])) := (Below.heap_setCell _ _ _ _ (by show D ≠ w.heap.size + 1; omega)).trans hD
  have hE' : ((Wh.setCell ⟨w.heap.size + 1, 0, none⟩ (.bool true)).putObj D (.deferred none)).heap[D']? = some (.deferred (some [])) := (World.putObj_heap_other (by omega)).trans ((Below.heap_setCell _ _ _ _ (by show D' ≠ w.heap.size + 1; omega)).trans hD')
  have hr9 : (((Wh.setCell ⟨w.heap.size + 1, 0, none⟩ (.bool true)).putObj D (.deferred none)).putObj D' (.deferred none)).cell? ⟨w.heap.size + 1, 0, none⟩ = some (.bool true) :=
    (World.cell?_of_block (a := ⟨w.heap.size + 1, 0, none⟩) ((World.putObj_heap_other (by show w.heap.size + 1 ≠ D'; omega)).trans (World.putObj_heap_other (by show w.heap.size + 1 ≠ D; omega)))).trans (World.cell?_setCell_same' _ _ _ (by rw [cell_of_one hr]; rfl))
  have hb9 := hB.setCell (p := ⟨w.heap.size + 1, 0, none⟩) (Nat.le_succ _) (.bool true)
  refine ⟨by simp, .inl ⟨_, _, rfl, run_takeDeferred hE, ?_⟩⟩
  refine ⟨by simp, .inl ⟨_, _, rfl, run_takeDeferred hE', ?_⟩⟩
  refine ⟨.bool true, by simp [results, Tryd.results5, go_sem, hr9, hT], rfl, ?_⟩
  exact ⟨hb9.os, hb9.tape, hb9.output, by have := hb9.size; simpa using this, fun k hk => (World.putObj_heap_other (by omega)).trans ((World.putObj_heap_other (by omega)).trans (hb9.block k hk))⟩
/-- the return ahead of the loops -/
theorem walk_early {w Wh : World} {T : Array Value} (hr : Wh.heap[w.heap.size + 1]? = some (.cells #[.bool false] 4)) (hB : Below w.heap.size w Wh)
    (hT : T[4]? = some (.pointer (some ⟨w.heap.size + 1, 0, none⟩)) := by rfl) :
    bodyPostM Fence.wide 0 Tryd.prog Tryd.f5 (fun e w' => e = .returned (.bool true) ∧ Below w.heap.size w w') .ret { tmps := T, defers := [] } (Wh.setCell ⟨w.heap.size + 1, 0, none⟩ (.bool true)) := by
  have hr9 : (Wh.setCell ⟨w.heap.size + 1, 0, none⟩ (.bool true)).cell? ⟨w.heap.size + 1, 0, none⟩ = some (.bool true) := World.cell?_setCell_same' _ _ _ (by rw [cell_of_one hr]; rfl)
  refine ⟨.bool true, by simp [results, Tryd.results5, go_sem, hr9, hT], rfl, ?_⟩
  exact hB.setCell (by show w.heap.size ≤ w.heap.size + 1; omega) _

set_option maxHeartbeats 40000000 in
theorem astWalk_of (HW : AwakeAt) (t : Tree) (w : World) (a : Option Addr) (c : Nat) (n : Int) (h0 : 0 ≤ n) (h1 : n ≤ 65535) (ht : Rep w t a) (hg : SignsIn w) :
    Calls Tryd.prog 5 #[t.val a c, .int .u16 n] w fun e w' => e = .returned (.bool true) ∧ Below w.heap.size w w' := by
  have HT := Lib.hid ht
  have HG := Lib.hid hg
  clear ht hg
  obtain ⟨i0, hi, hz0, hz1, hz2⟩ := info_parts Tryd.infoInts
  have HB0 : Hid (Below (w.heap.size + 1 + 1) ((w.alloc (boxObj t a c)).alloc (.cells #[.bool false] 4)) ((w.alloc (boxObj t a c)).alloc (.cells #[.bool false] 4))) := Below.refl _ _
  refine (callsIn_wide (n := 0)).1 (callsIn_of_wp_marks Tryd.func5 rfl trivial ?_ rfl)
  refine wpIn_wide.2 ?_
  simp only [Tryd.ntmps5, List.size_toArray, List.length_cons, List.length_nil, Nat.reduceAdd, Nat.reduceSub, Array.replicate_succ, Array.replicate_zero, List.push_toArray, List.append_toArray, List.nil_append, List.cons_append]
  go_wp2_with fail
  refine (HW _ (HG.out.below two_alloc)).mono ?_
  rintro e w1 ⟨rfl, hB1⟩
  have HB1 := Lib.hid (HB0.out.trans (hB1.mono (by simp)))
  have HBX1 : Hid (w1.heap[w.heap.size]? = some (boxObj t a c)) := (HB1.out.block _ (by omega)).trans two_heap1
  obtain ⟨⟨f0, f1, f2, f3⟩, _⟩ := blk4 HBX1.out
  clear hB1
  go_wp2_with fail
  by_cases hbig : t.big
  · refine (big_yes t _ a c (HT.out.below (two_alloc.trans (HB1.out.mono (by omega)))) hbig).mono ?_
    rintro e w2 ⟨rfl, hB2⟩
    have HB2 := Lib.hid (HB1.out.trans (hB2.mono (by have := HB1.out.size; simpa using this)))
    have HRES : Hid (w2.heap[w.heap.size + 1]? = some (.cells #[.bool false] 4)) := (HB2.out.block _ (by omega)).trans (by have := World.alloc_heap_new (w.alloc (boxObj t a c)) (.cells #[.bool false] 4); rwa [World.size_alloc] at this)
    have r1 := cell_of_one HRES.out
    have r2 := free_of_one HRES.out
    clear hB2 f0 f1 f2 f3
    go_wp2_with fail
    exact walk_early HRES.out (two_alloc.trans (HB2.out.mono (by omega)))
  refine (big_no t _ a c (HT.out.below (two_alloc.trans (HB1.out.mono (by omega)))) hbig).mono ?_
  rintro e w2 ⟨rfl, hB2⟩
  have HB2 := Lib.hid (HB1.out.trans (hB2.mono (by have := HB1.out.size; simpa using this)))
  have hz2' : w.heap.size + 1 + 1 ≤ w2.heap.size := by have := HB2.out.size; simpa using this
  have HBX2 : Hid (w2.heap[w.heap.size]? = some (boxObj t a c)) := (HB2.out.block _ (by omega)).trans two_heap1
  have hsm := Tree.small hbig
  clear hB2 f0 f1 f2 f3 hbig
  obtain ⟨⟨f0, f1, f2, f3⟩, _⟩ := blk4 HBX2.out
  have HBW2 : Hid (Below w.heap.size w w2) := two_alloc.trans (HB2.out.mono (by omega))
  go_wp2_with fail
  refine (paths_any t _ a c (HT.out.below HBW2.out) (by omega) (by omega)).mono ?_
  rintro e w3 ⟨wv, rfl, ⟨wvs, hrow⟩, hB3⟩
  have HROW := Lib.hid (hrow.read (pathsOf_ne t))
  obtain ⟨g, cap, rfl, hSg, hgl, _⟩ := HROW.out
  have hz3 : w2.heap.size ≤ w3.heap.size := hB3.size
  have HB3 := Lib.hid (HB2.out.trans (hB3.mono hz2'))
  have hpl : (pathsOf t).length = t.size := pathsOf_len t
  have HPL := Lib.hid hpl
  rw [hpl]
  clear hrow hB3 f0 f1 f2 f3 hpl hSg
  have HBX3 : Hid (w3.heap[w.heap.size]? = some (boxObj t a c)) := (HB3.out.block _ (by omega)).trans two_heap1
  obtain ⟨⟨f0, f1, f2, f3⟩, _⟩ := blk4 HBX3.out
  have hw3 : w.heap.size < w3.heap.size := by omega
  have hw3' : w.heap.size < w3.heap.size + 1 := by omega
  go_wp2_with fail
  have HBK : Hid (Below w3.heap.size w3 ((w3.alloc (.cells #[.slice (some ⟨g, 0, none⟩) t.size cap] 29)).alloc (.cells #[.slice none 0 0] 29))) := two_alloc
  have HBW3 : Hid (Below w.heap.size w w3) := two_alloc.trans (HB3.out.mono (by omega))
  refine (walk_any t _ a c ((HT.out.below HBW3.out).below HBK.out) (by omega) (by omega)).mono ?_
  rintro e w4 ⟨br, rfl, hB4, hit⟩
  have HIT := Lib.hid hit
  have hz4 : w3.heap.size + 2 ≤ w4.heap.size := by have := hB4.size; simpa using this
  have HB34 := Lib.hid (HBK.out.trans (hB4.mono (by simp; omega)))
  have HB4 := Lib.hid (HB3.out.trans (HB34.out.mono (by omega)))
  have HBW4 : Hid (Below w.heap.size w w4) := HBW3.out.trans (HB34.out.mono (by omega))
  have HINV : Hid (WkI t a c w.heap.size w3.heap.size w4.heap.size (.slice (some ⟨g, 0, none⟩) t.size cap) (fun k => k = w3.heap.size + 1) [] w4) := by
    refine ⟨(HB34.out.block _ hw3).trans HBX3.out, (HT.out.below HBW3.out).toIn.move (fun k hk _ => HB34.out.block k hk) (fun _ h _ => h), ?_, ?_, ⟨.slice none 0 0, [], ?_, ⟨⟨rfl, .inl ⟨rfl, rfl⟩⟩, fun i p u hp _ => (by simp at hp)⟩, (fun b hb => (by cases hb)), fun k => ?_⟩, hw3, by omega⟩
    · exact (hB4.block _ (by simp <;> omega)).trans two_heap1
    · have := HROW.out.move HB34.out.size (fun k hk hl => HB34.out.block k hl) (S' := fun k => k < w3.heap.size) (fun k hk _ => hk.2)
      rw [HPL.out] at this
      exact this
    · refine (hB4.block _ (by simp <;> omega)).trans ?_
      have := World.alloc_heap_new (w3.alloc (.cells #[.slice (some ⟨g, 0, none⟩) t.size cap] 29)) (.cells #[.slice none 0 0] 29)
      rwa [World.size_alloc] at this
    · constructor
      · exact fun h => .inl h
      · rintro (h | h)
        · exact h
        · cases h
  clear hit hB4 f0 f1 f2 f3
  go_wp2_with fail
  refine range_wpD (gf := 44) (lb := #[.pointer (some ⟨br, 0, none⟩)]) rfl (enters_of Tryd.func44 (by kernel_rfl) rfl) HIT.out (fun k => k = w3.heap.size + 1) ?_ ?_ ?_ ?_ (WkI t a c w.heap.size w3.heap.size w4.heap.size (.slice (some ⟨g, 0, none⟩) t.size cap)) (fun _ _ _ => False) ?_ ?_ HINV.out (WkM w4.heap.size) ?_ ?assign ?body ?done ?stop
  · rintro k rfl; omega
  · rintro k rfl ⟨h1, _⟩; simp at h1 <;> omega
  · exact fun k h => h.2
  · rintro O x args W ⟨v, a, c, rfl, _⟩; rfl
  · exact fun B pre A C h hk => h.keep hk
  · exact fun c pre A B h _ => h
  · exact fun B x a' A C h hk => h.keep hk
  case assign =>
    rintro m l pre x args W K B hI hlB hz ⟨v, a5, c5, rfl, hp, hr⟩ hK
    have HP := Lib.hid hp
    have HR5 := Lib.hid hr
    have HK := Lib.hid hK
    have HBX : Hid (Below W.heap.size W (W.alloc (boxObj x.2 a5 c5))) := (Below.refl _ _).alloc (Nat.le_refl _) _
    clear hp hr hI hK hlB
    simp only [List.zip_toArray, List.zip_cons_cons, List.zip_nil_right, List.foldl_toArray, List.foldl_cons, List.foldl_nil, List.setIfInBounds_toArray, List.set_cons_zero, List.set_cons_succ]
    gi_wp2
    exact HK.out _ _ HBX.out ⟨v, a5, c5, W.heap.size, rfl, HP.out.below HBX.out, HR5.out.move (fun k _ hk => HBX.out.block k hk) (fun _ h _ => h), World.alloc_heap_new W _, by omega⟩
  case body =>
    rintro m l pre x a' W B hpx hI hsB hlB hz ⟨v, a5, c5, bx, rfl, hp, hr, hbx, hbl⟩
    obtain ⟨vb, vo, vc, rfl, _⟩ := id hp
    obtain ⟨hat, hpre⟩ := pre_at hpx
    have hmem := List.mem_of_getElem? hat
    rw [its_length] at hpre
    have HI := Lib.hid hI
    have HP := Lib.hid hp
    have HR5 := Lib.hid hr.rep
    have HBX := Lib.hid hbx
    have hatp : (pathsOf t)[pre.length]? = some x.1 := by unfold pathsOf; rw [List.getElem?_map, hat]; rfl
    obtain ⟨kv, vs, hk1, hk2, hk3, hk4⟩ := hI.kept
    have HK1 := Lib.hid hk1
    have HK2 := Lib.hid hk2
    have HK3 := Lib.hid hk3
    have HK4 := Lib.hid hk4
    obtain ⟨ka, kc, rfl⟩ : ∃ ka kc, kv = .slice ka pre.length kc := by
      have := hk2.own
      rw [List.length_map] at this
      rcases ownsRow_form this with ⟨rfl, h⟩ | ⟨g, cap, rfl, _⟩
      · exact ⟨none, 0, by rw [h]⟩
      · exact ⟨_, _, rfl⟩
    have ck := cell_of_one hk1
    have fk := free_of_one hk1
    have cw := cell_of_one hI.want
    obtain ⟨⟨b0, b1, b2, b3⟩, _⟩ := blk4 hI.box
    obtain ⟨g', cap', hgg, _, hgl', hlc⟩ := hI.lst
    simp only [Value.slice.injEq, Option.some.injEq, Addr.mk.injEq] at hgg
    obtain ⟨⟨rfl, _, _⟩, hq9, rfl⟩ := hgg
    clear hq9
    obtain ⟨pu, hpu, hpin⟩ := hlc _ _ hatp
    have hpd := path_le hmem
    have HAT : Hid (t.at x.1 = some x.2) := its_at t x hmem
    have hbxl : bx < W.heap.size := (Array.getElem?_eq_some_iff.1 hbx).1
    have hNl : w.heap.size < W.heap.size := (Array.getElem?_eq_some_iff.1 hI.box).1
    have HBXT := Lib.hid hI.box
    have HPU := Lib.hid hpin
    clear hlc hpin hatp hmem hat hr hp hI hbx hk1 hk2 hk3 hk4 hsB hlB hpx
    have hle : decide (t.size ≤ pre.length) = false := by simp; omega
    have hi0 : (0 : Int) ≤ (pre.length : Int) := by omega
    have hi1 : (pre.length : Int) < (t.size : Int) := by omega
    simp only [List.setIfInBounds_toArray, List.set_cons_zero, List.set_cons_succ]
    gi_wp2
    have HREF : Hid (∀ W', Below W.heap.size W W' → Calls Tryd.prog 28 #[t.val a c, pu] W' (fun e w' => ∃ a6 c6, e = .returned (.tuple #[x.2.val a6 c6, .bool true]) ∧ RepIn (fun k => k < w3.heap.size) w' x.2 a6 ∧ Below W'.heap.size W' w')) := by
      intro W' hBW
      refine (refAt_in (fun k => k < w3.heap.size) t x.1 W' a c pu (HI.out.rep.move (fun k _ hl => hBW.block k hl) (fun _ h _ => h)) (HPU.out.at.below hBW) (by omega)).mono ?_
      rintro e w' ⟨a6, c6, h1, h2, h3⟩
      rw [HAT.out] at h1 h2
      exact ⟨a6, c6, h1, h2, h3⟩
    obtain ⟨pb, po, pc, rfl, _⟩ := HPU.out
    refine cut_normal (fun T => WkR W T (t.val a c) (.slice (some ⟨g, 0, none⟩) t.size cap) (.slice ka pre.length kc) (.int .i64 pre.length) (.pointer (some ⟨g, pre.length, none⟩)) (.slice (some ⟨pb, po, none⟩) x.1.length pc) x.2) ?_ ?_
    · refine round_held (S := WkS t a c w.heap.size W) (by kernel_rfl) (by kernel_rfl) OnlyN.no ⟨HBXT.out, (Below.refl _ _).drew⟩ (fun hHeld => ?_)
      refine wpAnyH_take (i := 0) (v := t.val a c) rfl (by kernel_rfl) (by kernel_rfl) (by kernel_rfl) (fun _ _ _ h => h) (Or.inl ⟨by rfl, ?_⟩) (by assumption) ?_
      · intro w' hSw; obtain ⟨⟨q0, q1, q2, q3⟩, _⟩ := blk4 hSw.box; clear hSw; go_simp
      (try simp only [Act.put, List.getElem_toArray, List.getElem_cons_zero, List.setIfInBounds_toArray, List.set_cons_zero, List.set_cons_succ])
      refine wpAnyH_take (i := 1) (v := .slice (some ⟨g, 0, none⟩) t.size cap) rfl (by kernel_rfl) (by kernel_rfl) (by kernel_rfl) (fun _ _ _ h => h) (Or.inl ⟨by rfl, ?_⟩) (by assumption) ?_
      · intro w' hSw; have q0 := cell_bel hSw.bel cw; clear hSw; go_simp
      (try simp only [Act.put, List.getElem_toArray, List.getElem_cons_zero, List.getElem_cons_succ, List.setIfInBounds_toArray, List.set_cons_zero, List.set_cons_succ])
      refine wpAnyH_take (i := 2) (v := .slice ka pre.length kc) rfl (by kernel_rfl) (by kernel_rfl) (by kernel_rfl) (fun _ _ _ h => h) (Or.inl ⟨by rfl, ?_⟩) (by assumption) ?_
      · intro w' hSw; have q0 := cell_bel hSw.bel ck; clear hSw; go_simp
      (try simp only [Act.put, List.getElem_toArray, List.getElem_cons_zero, List.getElem_cons_succ, List.setIfInBounds_toArray, List.set_cons_zero, List.set_cons_succ])
      refine wpAnyH_take (i := 3) (v := .int .i64 pre.length) rfl (by kernel_rfl) (by kernel_rfl) (by kernel_rfl) (fun _ _ _ h => h) (Or.inl ⟨by rfl, ?_⟩) (by assumption) ?_
      · intro w' hSw; go_simp
      (try simp only [Act.put, List.getElem_toArray, List.getElem_cons_zero, List.getElem_cons_succ, List.setIfInBounds_toArray, List.set_cons_zero, List.set_cons_succ])
      refine wpAnyH_take (i := 4) (v := .pointer (some ⟨g, pre.length, none⟩)) rfl (by kernel_rfl) (by kernel_rfl) (by kernel_rfl) (fun _ _ _ h => h) (Or.inl ⟨by rfl, ?_⟩) (by assumption) ?_
      · intro w' hSw; go_simp
      (try simp only [Act.put, List.getElem_toArray, List.getElem_cons_zero, List.getElem_cons_succ, List.setIfInBounds_toArray, List.set_cons_zero, List.set_cons_succ])
      refine wpAnyH_take (i := 5) (v := .slice (some ⟨pb, po, none⟩) x.1.length pc) rfl (by kernel_rfl) (by kernel_rfl) (by kernel_rfl) (fun _ _ _ h => h) (Or.inl ⟨by rfl, ?_⟩) (by assumption) ?_
      · intro w' hSw; have q0 := cell_bel hSw.bel hpu; clear hSw; go_simp
      (try simp only [Act.put, List.getElem_toArray, List.getElem_cons_zero, List.getElem_cons_succ, List.setIfInBounds_toArray, List.set_cons_zero, List.set_cons_succ])
      refine wpAnyH_ready (rs := [6, 10]) (by kernel_rfl) (by simp) (AllReadyH.cons rfl (fun K hK => ?_) (AllReadyH.cons rfl (fun K hK => ?_) AllReadyH.nil))
      · go_simp
        refine (HREF.out _ hHeld.bel).mono ?_
        rintro e w6 ⟨a6, c6, rfl, hr6, hB7⟩
        have HR6 := Lib.hid hr6
        refine hK.out _ _ (hHeld.next hB7) (fun hHeld => ?_)
        clear hK K
        rename_i hOld
        clear hOld
        (try simp only [Act.put, List.getElem_toArray, List.getElem_cons_zero, List.getElem_cons_succ, List.setIfInBounds_toArray, List.set_cons_zero, List.set_cons_succ])
        clear hr6 hB7
        have HH6 := Lib.hid hHeld
        refine wpAnyH_take (i := 7) (v := .tuple #[x.2.val a6 c6, .bool true]) rfl (by kernel_rfl) (by kernel_rfl) (by kernel_rfl) (fun _ _ _ h => h) (Or.inl ⟨by rfl, ?_⟩) (by assumption) ?_
        · intro w' hSw; go_simp
        (try simp only [Act.put, List.getElem_toArray, List.getElem_cons_zero, List.getElem_cons_succ, List.setIfInBounds_toArray, List.set_cons_zero, List.set_cons_succ])
        refine wpAnyH_take (i := 8) (v := x.2.val a6 c6) rfl (by kernel_rfl) (by kernel_rfl) (by kernel_rfl) (fun _ _ _ h => h) (Or.inl ⟨by rfl, ?_⟩) (by assumption) ?_
        · intro w' hSw; go_simp
        (try simp only [Act.put, List.getElem_toArray, List.getElem_cons_zero, List.getElem_cons_succ, List.setIfInBounds_toArray, List.set_cons_zero, List.set_cons_succ])
        refine wpAnyH_take (i := 9) (v := .bool true) rfl (by kernel_rfl) (by kernel_rfl) (by kernel_rfl) (fun _ _ _ h => h) (Or.inl ⟨by rfl, ?_⟩) (by assumption) ?_
        · intro w' hSw; go_simp
        (try simp only [Act.put, List.getElem_toArray, List.getElem_cons_zero, List.getElem_cons_succ, List.setIfInBounds_toArray, List.set_cons_zero, List.set_cons_succ])
        refine wpAnyH_ready (rs := [10]) (by kernel_rfl) (by simp) (AllReadyH.cons rfl (fun K hK => ?_) AllReadyH.nil)
        go_simp
        refine hK.out _ _ (hHeld.next ((Below.refl _ _).alloc (Nat.le_refl _) _)) (fun hHeld => ?_)
        clear hK K
        rename_i hOld
        clear hOld
        (try simp only [Act.put, List.getElem_toArray, List.getElem_cons_zero, List.getElem_cons_succ, List.setIfInBounds_toArray, List.set_cons_zero, List.set_cons_succ])
        refine wpAnyH_ready (rs := [11]) (by kernel_rfl) (by simp) (AllReadyH.cons rfl (fun K hK => ?_) AllReadyH.nil)
        go_simp
        refine hK.out _ _ (HH6.out.next ((Below.refl _ _).alloc (Nat.le_refl _) _)) (fun hHeld => ?_)
        clear hK K
        rename_i hOld
        clear hOld
        (try simp only [Act.put, List.getElem_toArray, List.getElem_cons_zero, List.getElem_cons_succ, List.setIfInBounds_toArray, List.set_cons_zero, List.set_cons_succ])
        refine wpAnyH_take (i := 12) (v := .bool true) rfl (by kernel_rfl) (by kernel_rfl) (by kernel_rfl) (fun _ _ _ h => h) (Or.inl ⟨by rfl, ?_⟩) (by assumption) ?_
        · intro w' hSw; go_simp
        (try simp only [Act.put, List.getElem_toArray, List.getElem_cons_zero, List.getElem_cons_succ, List.setIfInBounds_toArray, List.set_cons_zero, List.set_cons_succ])
        refine wpAnyH_done (by kernel_rfl) ?_ _
        exact ⟨w6.heap.size, a6, c6, by simp only [List.setIfInBounds_toArray, List.set_cons_zero, List.set_cons_succ], World.alloc_heap_new w6 _, HR6.out.rep.below ((Below.refl _ _).alloc (Nat.le_refl _) _), hHeld.bel, HH6.out.bel.size⟩
      · go_simp
        refine hK.out _ _ (hHeld.next ((Below.refl _ _).alloc (Nat.le_refl _) _)) (fun hHeld => ?_)
        clear hK K
        rename_i hOld
        clear hOld
        (try simp only [Act.put, List.getElem_toArray, List.getElem_cons_zero, List.getElem_cons_succ, List.setIfInBounds_toArray, List.set_cons_zero, List.set_cons_succ])
        refine wpAnyH_ready (rs := [6]) (by kernel_rfl) (by simp) (AllReadyH.cons rfl (fun K hK => ?_) AllReadyH.nil)
        go_simp
        refine (HREF.out _ hHeld.bel).mono ?_
        rintro e w6 ⟨a6, c6, rfl, hr6, hB7⟩
        have HR6 := Lib.hid hr6
        have HZ6 : Hid (w6.heap[W.heap.size]? = some zeroNode) := Lib.hid ((hB7.block _ (by simp)).trans (World.alloc_heap_new _ _))
        obtain ⟨⟨z0, z1, z2, z3⟩, y0, y1, y2, y3⟩ := blk4 HZ6.out
        refine hK.out _ _ (hHeld.next hB7) (fun hHeld => ?_)
        clear hK K
        rename_i hOld
        clear hOld
        (try simp only [Act.put, List.getElem_toArray, List.getElem_cons_zero, List.getElem_cons_succ, List.setIfInBounds_toArray, List.set_cons_zero, List.set_cons_succ])
        clear hr6 hB7
        have HH6 := Lib.hid hHeld
        refine wpAnyH_take (i := 7) (v := .tuple #[x.2.val a6 c6, .bool true]) rfl (by kernel_rfl) (by kernel_rfl) (by kernel_rfl) (fun _ _ _ h => h) (Or.inl ⟨by rfl, ?_⟩) (by assumption) ?_
        · intro w' hSw; go_simp
        (try simp only [Act.put, List.getElem_toArray, List.getElem_cons_zero, List.getElem_cons_succ, List.setIfInBounds_toArray, List.set_cons_zero, List.set_cons_succ])
        refine wpAnyH_take (i := 8) (v := x.2.val a6 c6) rfl (by kernel_rfl) (by kernel_rfl) (by kernel_rfl) (fun _ _ _ h => h) (Or.inl ⟨by rfl, ?_⟩) (by assumption) ?_
        · intro w' hSw; go_simp
        (try simp only [Act.put, List.getElem_toArray, List.getElem_cons_zero, List.getElem_cons_succ, List.setIfInBounds_toArray, List.set_cons_zero, List.set_cons_succ])
        refine wpAnyH_take (i := 9) (v := .bool true) rfl (by kernel_rfl) (by kernel_rfl) (by kernel_rfl) (fun _ _ _ h => h) (Or.inl ⟨by rfl, ?_⟩) (by assumption) ?_
        · intro w' hSw; go_simp
        (try simp only [Act.put, List.getElem_toArray, List.getElem_cons_zero, List.getElem_cons_succ, List.setIfInBounds_toArray, List.set_cons_zero, List.set_cons_succ])
        refine wpAnyH_ready (rs := [11]) (by kernel_rfl) (by simp) (AllReadyH.cons rfl (fun K hK => ?_) AllReadyH.nil)
        go_simp
        refine hK.out _ _ (HH6.out.put hNl) (fun hHeld => ?_)
        clear hK K
        rename_i hOld
        clear hOld
        (try simp only [Act.put, List.getElem_toArray, List.getElem_cons_zero, List.getElem_cons_succ, List.setIfInBounds_toArray, List.set_cons_zero, List.set_cons_succ])
        refine wpAnyH_take (i := 12) (v := .bool true) rfl (by kernel_rfl) (by kernel_rfl) (by kernel_rfl) (fun _ _ _ h => h) (Or.inl ⟨by rfl, ?_⟩) (by assumption) ?_
        · intro w' hSw; go_simp
        (try simp only [Act.put, List.getElem_toArray, List.getElem_cons_zero, List.getElem_cons_succ, List.setIfInBounds_toArray, List.set_cons_zero, List.set_cons_succ])
        refine wpAnyH_done (by kernel_rfl) ?_ _
        exact ⟨W.heap.size, a6, c6, by simp only [List.setIfInBounds_toArray, List.set_cons_zero, List.set_cons_succ], set4_at HZ6.out, (HR6.out.move (S' := fun _ => True) (fun k hk _ => set4_other (by omega)) (fun _ _ _ => trivial)).rep, hHeld.bel, Nat.le_refl _⟩
    · rintro a' w' ⟨bb, a6, c6, rfl, hbb, hr6, hB7, hbbl⟩
      simp only [List.setIfInBounds_toArray, List.set_cons_zero, List.set_cons_succ]
      obtain ⟨⟨z0, z1, z2, z3⟩, _⟩ := blk4 hbb
      have HBX7 : Hid (w'.heap[bx]? = some (boxObj x.2 a5 c5)) := (hB7.block _ hbxl).trans HBX.out
      obtain ⟨⟨m0, m1, m2, m3⟩, _⟩ := blk4 HBX7.out
      have HB7 := Lib.hid hB7
      have hdd : ∀ k : Nat, ((Fence.wide.inRound l).depth.isSome = true → 1 ≤ k) := fun k h => by cases h
      have HEQ : Hid (∀ n, CallsIn (Fence.wide.inRound l) n Tryd.prog 29 #[x.2.val a5 c5, x.2.val a6 c6] w' (fun e w'' => e = .returned (.bool true) ∧ Below w'.heap.size w' w'')) := by
        have q1 := HR5.out.below hB7
        intro n
        refine CallsIn.inRound l (callsIn_wide.2 ((refEqual_any x.2 x.2 w' a5 a6 c5 c6 q1 hr6).mono ?_))
        rintro e w'' ⟨h1, h2⟩
        rw [eqT_self] at h1
        exact ⟨h1, h2⟩
      clear hbb hr6 hB7 b0 b1 b2 b3 cw hpu ck fk
      gi_wp2
      refine ⟨trivial, hdd _, ?_⟩
      with_reducible refine (HEQ.out _).mono ?_
      rintro e w8 ⟨rfl, hB8⟩
      have HB8 := Lib.hid (HB7.out.trans (hB8.mono HB7.out.size))
      clear hB8 z0 z1 z2 z3 m0 m1 m2 m3
      have hz8 : W.heap.size ≤ w8.heap.size := HB8.out.size
      have HK8 : Hid (w8.heap[w3.heap.size + 1]? = some (.cells #[.slice ka pre.length kc] 29 (0, 0))) := (HB8.out.block _ (Array.getElem?_eq_some_iff.1 HK1.out).1).trans HK1.out
      have hK8l : w3.heap.size + 1 < w8.heap.size := (Array.getElem?_eq_some_iff.1 HK8.out).1
      have ck := cell_of_one HK8.out
      have fk := free_of_one HK8.out
      have HOWN8 : Hid ((w8.alloc (.cells #[.slice (some ⟨vb, vo, none⟩) x.1.length vc] 34)).ownsRow 0 34 1 (.slice ka pre.length kc) pre.length vs) := by
        have := (HK2.out.move (Nat.le_trans hz8 (by simp)) (w' := w8.alloc (.cells #[.slice (some ⟨vb, vo, none⟩) x.1.length vc] 34)) (fun k _ hl => (HB8.out.alloc hz8 _).block k hl)).own
        rwa [List.length_map] at this
      gi_wp2_with (gi_at_builtin; refine wpListIn_append_own_at _ rfl (.tmp 44) (.tmp 46) 29 rfl 0 34 i0 _ 1 24 Tryd.underlying29 hi hz0 hz1 hz2 rfl (by decide) _ pre.length vs rfl HOWN8.out ⟨w8.heap.size, 0, none⟩ 1 1 [.slice (some ⟨vb, vo, none⟩) x.1.length vc] rfl rfl ?d1 ?d2 ?d3 ?d4 ?d5 ?_)
      case d1 =>
        intro i q hq
        match i, hq with
        | 0, hq => simp at hq; subst hq; exact World.cell?_alloc_new _ _ _ 0
        | i + 1, hq => simp at hq
      case d2 => intro q hq; simp at hq; subst hq; rfl
      case d3 => unfold maxLen; omega
      case d4 => omega
      case d5 => exact Nat.zero_le _
      intro kv' w9 ho hgr _ hpl2
      have hpl3 : kv'.ownBlock = (Value.slice ka pre.length kc).ownBlock ∨ kv'.ownBlock = some (w8.alloc (.cells #[.slice (some ⟨vb, vo, none⟩) x.1.length vc] 34)).heap.size := by simpa using hpl2
      have HEND := Lib.hid (wk_next HI.out hz HK1.out HK2.out HK3.out HK4.out HP.out HB8.out ho hgr hpl3)
      have HK9 : Hid (w9.heap[w3.heap.size + 1]? = some (.cells #[.slice ka pre.length kc] 29 (0, 0))) := (hgr.block _ (by simp; omega) (fun e => by have := HK3.out _ e.symm; omega)).trans ((Below.heap_alloc _ _ _ hK8l).trans HK8.out)
      have ck9 := cell_of_one HK9.out
      have fk9 := free_of_one HK9.out
      obtain ⟨ka', kc', rfl⟩ : ∃ ka' kc', kv' = .slice ka' (pre.length + 1) kc' := by
        rcases ownsRow_form ho with ⟨rfl, h⟩ | ⟨g, cap, rfl, _⟩
        · omega
        · exact ⟨_, _, rfl⟩
      clear ho hgr hpl2 hpl3 ck fk
      gi_wp2
      exact HEND.out
  case stop =>
    rintro c q W hq hn
    exact hn.elim
  case done =>
    rintro W B hI hsB hK hD
    have HBK5 : Hid (Below w3.heap.size w4 W) := hK.below (by omega) (by rintro k rfl; omega)
    have HBW5 : Hid (Below w.heap.size w W) := HBW4.out.trans (HBK5.out.mono (by omega))
    have HD := Lib.hid hD
    have hzW : w4.heap.size < W.heap.size := (Array.getElem?_eq_some_iff.1 hD).1
    have HRES : Hid (W.heap[w.heap.size + 1]? = some (.cells #[.bool false] 4)) := (HBK5.out.block _ (by omega)).trans ((HB4.out.block _ (by omega)).trans (by have := World.alloc_heap_new (w.alloc (boxObj t a c)) (.cells #[.bool false] 4); rwa [World.size_alloc] at this))
    obtain ⟨kv, vs, hk1, hk2, _, _⟩ := hI.kept
    have hown := hk2.own
    rw [List.length_map, its_length] at hown
    have hs1 := Tree.size_pos t
    rcases ownsRow_form hown with ⟨_, h⟩ | ⟨kg, kc, rfl, _, hkgl, _⟩
    · omega
    have HBOX := Lib.hid hI.box
    have HWANT := Lib.hid hI.want
    have HK1 := Lib.hid hk1
    have HKROW : Hid (∀ i, i < t.size → ∃ p u1 u2, W.cell? ⟨kg, i, none⟩ = some u1 ∧ W.cell? ⟨g, i, none⟩ = some u2 ∧ PathIn (fun _ => True) W u1 p ∧ PathIn (fun _ => True) W u2 p ∧ p.length ≤ 1000) := by
      intro i hi
      obtain ⟨p, hp⟩ : ∃ p, (pathsOf t)[i]? = some p := ⟨_, List.getElem?_eq_getElem (by rw [HPL.out]; exact hi)⟩
      obtain ⟨u1, hu1⟩ : ∃ u, vs[i]? = some u := ⟨_, List.getElem?_eq_getElem (by rw [hk2.len, List.length_map, its_length]; exact hi)⟩
      obtain ⟨g', cap', hgg, _, _, hlc⟩ := hI.lst
      simp only [Value.slice.injEq, Option.some.injEq, Addr.mk.injEq] at hgg
      obtain ⟨⟨rfl, _, _⟩, _, rfl⟩ := hgg
      obtain ⟨u2, hu2, hp2⟩ := hlc i p hp
      have h1 := hown.cells (g := kg) rfl i u1 hu1
      rw [show (⟨kg, 0, none⟩ : Addr).add i = ⟨kg, i, none⟩ by unfold Addr.add; split <;> simp_all] at h1
      have hpd := pathsOf_depth (List.mem_of_getElem? hp)
      exact ⟨p, u1, u2, h1, hu2, (hk2.each i p u1 hp hu1).move (Nat.le_refl _) (fun _ _ _ => rfl) (fun _ _ _ => trivial), hp2.move (Nat.le_refl _) (fun _ _ _ => rfl) (fun _ _ _ => trivial), by omega⟩
    clear hI hK hD hk1 hk2 hown hsB
    have ck := cell_of_one HK1.out
    have cw := cell_of_one HWANT.out
    go_wp2_with fail
    go_loopw [55] (fun i wr => ∃ k : Nat, k ≤ t.size ∧ i = .int .i64 k ∧ Below W.heap.size W wr) (fun i _ => t.size - (intOf i).toNat)
    case atStart => exact ⟨0, Nat.zero_le _, rfl, Below.refl _ _⟩
    case round =>
      obtain ⟨k, hkl, rfl, hBr⟩ := hrel
      have HBR := Lib.hid hBr
      by_cases hlt : k < t.size
      ·
        obtain ⟨p, u1, u2, hc1, hc2, hp1, hp2, hpl⟩ := HKROW.out k hlt
        have HP1 := Lib.hid (hp1.below hBr)
        have HP2 := Lib.hid (hp2.below hBr)
        have d1 := cell_bel hBr hc1
        have d2 := cell_bel hBr hc2
        have ck' := cell_bel hBr ck
        have cw' := cell_bel hBr cw
        obtain ⟨b1, o1, cc1, rfl, _⟩ := hp1
        obtain ⟨b2, o2, cc2, rfl, _⟩ := hp2
        clear hBr hc1 hc2 ck cw
        have hi0 : (0 : Int) ≤ (k : Int) := by omega
        have hi1 : (k : Int) < (t.size : Int) := by omega
        go_wp2_with fail
        go_region_held3 (fun w' => Below wr.heap.size wr w' ∧ w'.cell? ⟨w3.heap.size + 1, 0, none⟩ = some (.slice (some ⟨kg, 0, none⟩) t.size kc) ∧ w'.cell? ⟨w3.heap.size, 0, none⟩ = some (.slice (some ⟨g, 0, none⟩) t.size cap) ∧ w'.cell? ⟨kg, k, none⟩ = some (.slice (some ⟨b1, o1, none⟩) p.length cc1) ∧ w'.cell? ⟨g, k, none⟩ = some (.slice (some ⟨b2, o2, none⟩) p.length cc2))
          (first | (exact ⟨(Below.refl _ _).drew, ck', cw', d1, d2⟩) | (exact cmp_next (by assumption) (by assumption)))
          (first
            | (go_at_call 30; refine (intsEq_any p _ _ _ (HP1.out.below (cmp_bel (by assumption))) (HP2.out.below (cmp_bel (by assumption))) (by omega)).mono ?_; rintro e w5 ⟨rfl, hB5⟩))
        go_split_ands
        have hBz : Below wr.heap.size wr w5 := by assumption
        have HBZ := Lib.hid (HBR.out.trans (hBz.mono HBR.out.size))
        go_wp2_with fail
        exact ⟨⟨k + 1, by omega, by go_num, HBZ.out⟩, by simp [intOf]; omega⟩
      · obtain rfl : k = t.size := by omega
        have cw' := cell_bel hBr cw
        have HBOXr : Hid (wr.heap[w.heap.size]? = some (boxObj t a c)) := (hBr.block _ (Array.getElem?_eq_some_iff.1 HBOX.out).1).trans HBOX.out
        obtain ⟨⟨b0, b1, b2, b3⟩, _⟩ := blk4 HBOXr.out
        have hzr : W.heap.size ≤ wr.heap.size := hBr.size
        obtain ⟨q, hq⟩ : ∃ q : Nat, n % (t.size : Int) = q := ⟨(n % (t.size : Int)).toNat, by have := Int.emod_nonneg n (b := (t.size : Int)) (by omega); omega⟩
        have hql : q < t.size := by have := Int.emod_lt_of_pos n (b := (t.size : Int)) (by omega); omega
        have HQ := Lib.hid hq
        have hNr : w.heap.size < wr.heap.size := by omega
        have hNr1 : w.heap.size < wr.heap.size + 1 := by omega
        have hs2 : (0 : Int) < (t.size : Int) := by omega
        have hm0 : 0 ≤ n % (t.size : Int) := by omega
        have hm1 : n % (t.size : Int) ≤ 500 := by omega
        clear hBr hq ck cw
        go_wp2_with fail
        rw [HQ.out]
        have HBM : Hid (Below wr.heap.size wr ((wr.alloc (.cells #[.int .i64 (1 + (q : Int))] 3)).alloc (.cells #[.int .i64 0] 3))) := two_alloc
        have HBWr : Hid (Below w.heap.size w wr) := HBW5.out.trans (HBR.out.mono (by omega))
        refine (walk_any t _ a c ((HT.out.below HBWr.out).below HBM.out) (by omega) (by omega)).mono ?_
        rintro e w6 ⟨br2, rfl, hB6, hit⟩
        have HIT2 := Lib.hid hit
        have hz6 : wr.heap.size + 2 ≤ w6.heap.size := by have := hB6.size; simpa using this
        have HBr6 := Lib.hid (HBM.out.trans (hB6.mono (by simp; omega)))
        have HBW6 : Hid (Below w.heap.size w w6) := HBWr.out.trans (HBr6.out.mono (by omega))
        have HINV2 : Hid (WkJ wr.heap.size (q + 1) [] w6) := by
          refine ⟨(hB6.block _ (by simp <;> omega)).trans ?_, (hB6.block _ (by simp <;> omega)).trans ?_, by simp⟩
          · have := two_heap1 (w := wr) (o := .cells #[.int .i64 (1 + (q : Int))] 3) (o' := .cells #[.int .i64 0] 3)
            rw [this, show (1 : Int) + (q : Int) = ((q + 1 : Nat) : Int) by omega]
          · have := World.alloc_heap_new (wr.alloc (.cells #[.int .i64 (1 + (q : Int))] 3)) (.cells #[.int .i64 0] 3)
            rwa [World.size_alloc] at this
        clear hit hB6 b0 b1 b2 b3 cw'
        go_wp2_with fail
        refine range_wpT (gf := 44) (lb := #[.pointer (some ⟨br2, 0, none⟩)]) rfl (enters_of Tryd.func44 (by kernel_rfl) rfl) HIT2.out (fun k => k = wr.heap.size + 1) ?_ ?_ ?_ ?_ (WkJ wr.heap.size (q + 1)) (fun c _ W => c = .exit 4 ∧ WkX wr.heap.size (q + 1) W) ?_ ?_ HINV2.out (WkN w6.heap.size) ?_ ?assign2 ?body2 ?done2 ?stop2
        · rintro k rfl; omega
        · rintro k rfl ⟨h1, _⟩; simp at h1 <;> omega
        · exact fun k h => h.2
        · rintro O x args W ⟨v, a, c, rfl, _⟩; rfl
        · exact fun pre A C h hk => h.keep (by omega) hk
        · exact fun c pre A C h hk => ⟨h.1, h.2.keep (by omega) hk⟩
        · exact fun x a' A C h hk => h
        case assign2 =>
          rintro m l pre x args W K hI hz ⟨v, a5, c5, rfl, hp, hr⟩ hK
          have HK := Lib.hid hK
          clear hp hr hI hK
          simp only [List.zip_toArray, List.zip_cons_cons, List.zip_nil_right, List.foldl_toArray, List.foldl_cons, List.foldl_nil, List.setIfInBounds_toArray, List.set_cons_zero, List.set_cons_succ]
          gi_wp2
          exact HK.out _ _ (Below.refl _ _) ⟨v, a5, c5, rfl⟩
        case body2 =>
          rintro m l pre x a' W hpx hI hz ⟨v, a5, c5, rfl⟩
          have HI := Lib.hid hI
          have cm := cell_of_one hI.m
          have ck := cell_of_one hI.k
          have fk := free_of_one hI.k
          have hlt2 := hI.lt
          have hpl2 : pre.length ≤ 1000 := by omega
          clear hI hpx
          simp only [List.setIfInBounds_toArray, List.set_cons_zero, List.set_cons_succ]
          by_cases hlast : pre.length = q
          · have HLAST := Lib.hid hlast
            have e1 : ((pre.length : Int) + 1 == ((q + 1 : Nat) : Int)) = true := by simp; omega
            have e2 : ((pre.length : Int) + 1 == (q : Int) + 1) = true := by simp; omega
            clear hlast
            gi_wp2
            exact ⟨Keep.setCell (O := fun k => k = wr.heap.size + 1) (Keep.refl _ W) rfl _, rfl, HI.out.leave (by rw [HLAST.out])⟩
          · have HLAST := Lib.hid hlast
            have e1 : ((pre.length : Int) + 1 == ((q + 1 : Nat) : Int)) = false := by simp; omega
            have e2 : ((pre.length : Int) + 1 == (q : Int) + 1) = false := by simp; omega
            gi_wp2
            exact ⟨Keep.setCell (O := fun k => k = wr.heap.size + 1) (Keep.refl _ W) rfl _, HI.out.more (by have := HLAST.out; omega)⟩
        case done2 =>
          rintro W hI hK hD
          have := hI.lt
          rw [its_length] at this
          omega
        case stop2 =>
          rintro c q' W hq ⟨rfl, hX⟩ hK hD
          have HBK6 : Hid (Below wr.heap.size w6 W) := hK.below (by omega) (by rintro k rfl; omega)
          have HBrW : Hid (Below wr.heap.size wr W) := HBr6.out.trans (HBK6.out.mono (Nat.le_refl _))
          have HRES6 : Hid (W.heap[w.heap.size + 1]? = some (.cells #[.bool false] 4)) := (HBrW.out.block _ (by omega)).trans ((HBR.out.block _ (by omega)).trans HRES.out)
          have HD6 : Hid (W.heap[w4.heap.size]? = some (.deferred (some []))) := (HBrW.out.block _ (by omega)).trans ((HBR.out.block _ hzW).trans HD.out)
          have HD7 := Lib.hid hD
          have HBW7 : Hid (Below w.heap.size w W) := HBWr.out.trans (HBrW.out.mono (by omega))
          have cm := cell_of_one hX.m
          have ck := cell_of_one hX.k
          have r1 := cell_of_one HRES6.out
          have r2 := free_of_one HRES6.out
          have hz7 : w6.heap.size < W.heap.size := (Array.getElem?_eq_some_iff.1 hD).1
          clear hX hK hD
          go_wp2_with fail
          exact walk_end HRES6.out HD7.out HD6.out HBW7.out (by omega) (by omega) (by omega)
end Go.Proofs.YtfkegjdgbnkicaaDoor
