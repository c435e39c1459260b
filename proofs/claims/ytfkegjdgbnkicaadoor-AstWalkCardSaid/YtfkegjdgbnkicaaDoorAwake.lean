/-
  Contract: awake (package ontimelaw12): the examples of the chapter hold.
-/
import Derived.Test.YtfkegjdgbnkicaaDoorAstWalk
import Derived.Test.YtfkegjdgbnkicaaDoorRangeWp
import Derived.Test.YtfkegjdgbnkicaaDoorLawKinds
import Derived.Test.YtfkegjdgbnkicaaDoorAwakeWorld
import Derived.Laws.EntriesVeiled
import Derived.WalkLawsBesides
import Derived.BigGuardIn
import Derived.BigRegionIn
namespace Go.Proofs.YtfkegjdgbnkicaaDoor
open Go.RowKit
set_option maxRecDepth 100000
attribute [local go_sem] Oper.semAt_some undef

/-- between two rounds of the loop -/
def AwI (N : Nat) (pre : List (List Int × Tree)) (W : World) : Prop :=
  pre.length ≤ 3 ∧ W.cell? ⟨N + 1 + 1 + 1 + 1 + 1 + 1, 0, none⟩ = some (.int .i64 (pre.length : Nat)) ∧ W.frozen? ⟨N + 1 + 1 + 1 + 1 + 1 + 1, 0, none⟩ = false ∧
    W.cell? ⟨N, 0, none⟩ = some (.bool false) ∧ W.frozen? ⟨N, 0, none⟩ = false
/-- no round leaves -/
def AwX (_ : Code) (_ : List (List Int × Tree)) (_ : World) : Prop := False
/-- what a round may turn -/
def AwO (N k : Nat) : Prop := k = N ∨ k = N + 1 + 1 + 1 + 1 + 1 + 1
/-- the frame of a round -/
def AwM (N L : Nat) (T : Array Value) (x : List Int × Tree) (a' : Act) (W : World) : Prop :=
  ∃ v a c, a' = { tmps := ((T.setIfInBounds 24 v).setIfInBounds 25 (x.2.val a c)).setIfInBounds 6 v, defers := [] } ∧ PathIn (fun k => ¬ (AwO N k ∨ (L ≤ k ∧ k ≤ L + 1))) W v x.1
theorem AwI.keep {N L : Nat} {pre : List (List Int × Tree)} {A B : World} (h : AwI N pre A) (hL : N + 8 ≤ L) (hk : Keep (fun k => L ≤ k ∧ k ≤ L + 1) A B) : AwI N pre B := by
  obtain ⟨h0, h1, h2, h3, h4⟩ := h
  refine ⟨h0, hk.cell (by omega) h1, ?_, hk.cell (by omega) h3, ?_⟩
  · exact (hk.frozen (b := N + 1 + 1 + 1 + 1 + 1 + 1) (fun h => by have := h.1; omega) (World.block_lt_of_cell? A _ h1)).trans h2
  · exact (hk.frozen (b := N) (fun h => by have := h.1; omega) (World.block_lt_of_cell? A _ h3)).trans h4
theorem AwM.keep {N L : Nat} {T : Array Value} {x : List Int × Tree} {a' : Act} {A B : World} (h : AwM N L T x a' A) (hk : Keep (fun k => L ≤ k ∧ k ≤ L + 1) A B) : AwM N L T x a' B := by
  obtain ⟨v, a, c, h1, h2⟩ := h
  exact ⟨v, a, c, h1, h2.move hk.size (fun k hS hl => hk.block k (fun h => hS (.inr h)) hl) (fun _ h _ => h)⟩

theorem sum_stmt : tSum.vld 115 = true := by kernel_rfl
theorem sum_block : tSum.vld 98 = false := by kernel_rfl
theorem sum_expr : tSum.vld 101 = false := by kernel_rfl
theorem at_of_prefix {α : Type} {pre l : List α} {x : α} (h : pre ++ [x] <+: l) : l[pre.length]? = some x := by
  obtain ⟨r, rfl⟩ := h
  simp
theorem aw_good {N : Nat} {pre : List (List Int × Tree)} {x : List Int × Tree} {W : World} {k : Nat} (hk : pre.length = k) (h3 : k < 3) (v : Int) (hv : v = (k + 1 : Nat)) (hI : AwI N pre W) : AwI N (pre ++ [x]) (W.setCell ⟨N + 1 + 1 + 1 + 1 + 1 + 1, 0, none⟩ (.int .i64 v)) := by
  obtain ⟨h0, h1, h2, h3', h4⟩ := hI
  refine ⟨by simp; omega, ?_, ?_, ?_, ?_⟩
  · rw [World.cell?_setCell_same' _ _ _ (by rw [h1]; rfl), hv]; simp [hk]
  · rw [World.frozen?_setCell]; exact h2
  · rw [World.cell?_setCell_other _ _ _ _ (by intro e; simp at e)]; exact h3'
  · rw [World.frozen?_setCell]; exact h4
theorem AwI.drew {N : Nat} {pre : List (List Int × Tree)} {W : World} (h : AwI N pre W) : AwI N pre W.drew := h

/-- what is called behind the loop -/
structure SumHas (N : Nat) (W : World) : Prop where
  c0 : W.cell? ⟨N + 1 + 1 + 1 + 1 + 1, 0, none⟩ = some (.int .u8 40)
  c1 : W.cell? ⟨N + 1 + 1 + 1 + 1 + 1, 1, none⟩ = some (.int .i64 0)
  c2 : W.cell? ⟨N + 1 + 1 + 1 + 1 + 1, 2, none⟩ = some (.string ⟨#[]⟩)
  c3 : W.cell? ⟨N + 1 + 1 + 1 + 1 + 1, 3, none⟩ = some (.slice (some ⟨N + 1 + 1 + 1 + 1, 0, none⟩) 2 2)
  n : W.cell? ⟨N + 1 + 1 + 1 + 1 + 1 + 1, 0, none⟩ = some (.int .i64 3)
  r : W.cell? ⟨N, 0, none⟩ = some (.bool false)
  f : W.frozen? ⟨N, 0, none⟩ = false
  sum : Rep W tSum (some ⟨N + 1 + 1 + 1 + 1, 0, none⟩)
  signs : SignsIn W
theorem SumHas.below {N : Nat} {W W' : World} (h : SumHas N W) (hB : Below W.heap.size W W') : SumHas N W' := by
  have hc : ∀ {b o : Nat} {v : Value}, W.cell? ⟨b, o, none⟩ = some v → W'.cell? ⟨b, o, none⟩ = some v := fun h => (hB.cell (p := ⟨_, _, none⟩) (World.block_lt_of_cell? W _ h)).trans h
  exact ⟨hc h.c0, hc h.c1, hc h.c2, hc h.c3, hc h.n, hc h.r, (hB.frozen (p := ⟨N, 0, none⟩) (World.block_lt_of_cell? W _ h.r)).trans h.f, h.sum.below hB, h.signs.below hB⟩

set_option maxHeartbeats 40000000 in
theorem awake_any : AwakeAt := by
  intro w hg
  have HG := Lib.hid hg
  clear hg
  have hnil : ∀ (W : World) (b : Nat), (binOp .eql 32 (.func (.func 44) #[] #[.pointer (some ⟨b, 0, none⟩)]) .nilFunc).run Tryd.prog W = .ok (.bool false) W := fun _ _ => by kernel_rfl
  refine (callsIn_wide (n := 0)).1 (callsIn_of_wp_marks Tryd.func12 rfl trivial ?_ rfl)
  refine wpIn_wide.2 ?_
  simp only [Tryd.ntmps12, List.size_toArray, List.length_nil, Nat.reduceSub, Array.replicate_succ, Array.replicate_zero, List.push_toArray, List.append_toArray, List.nil_append, List.cons_append]
  go_wp2_with fail
  have HA := awakeHas w
  refine (walk_any tWalk _ _ 2 HA.walk (by decide) (by decide)).mono ?_
  rintro e w1 ⟨br, rfl, hB1, hit⟩
  go_wp2_with fail
  have hz1 := hB1.size
  have hzA := HA.size
  have HB1 := Lib.hid hB1
  have HIT := Lib.hid hit
  have HN : Hid (AwI w.heap.size [] w1) := by
    have q6 : w1.heap[w.heap.size + 1 + 1 + 1 + 1 + 1 + 1]? = some (.cells #[.int .i64 0] 3) := (hB1.block _ (by omega)).trans HA.n
    have q0 : w1.heap[w.heap.size]? = some (.cells #[.bool false] 4) := (hB1.block _ (by omega)).trans HA.res
    refine ⟨by simp, ?_, ?_, ?_, ?_⟩
    · unfold World.cell?; simp only [q6]; rfl
    · unfold World.frozen?; simp only [q6]; rfl
    · unfold World.cell?; simp only [q0]; rfl
    · unfold World.frozen?; simp only [q0]; rfl
  have hL : w.heap.size + 8 ≤ w1.heap.size := by omega
  clear hB1 hit
  generalize Value.agg #[.int .u8 40, .int .i64 0, .string ⟨#[]⟩, .slice (some ⟨w.heap.size + 1 + 1 + 1 + 1 + 1 + 1 + 1, 0, none⟩) 2 2] = g1
  generalize Value.agg #[.int .u8 40, .int .i64 0, .string ⟨#[]⟩, .slice (some ⟨w.heap.size + 1 + 1 + 1 + 1, 0, none⟩) 2 2] = g2
  generalize Value.agg #[.int .u8 6, .int .i64 0, .string ⟨#[]⟩, .slice (some ⟨w.heap.size + 1 + 1 + 1, 0, none⟩) 2 2] = g3
  generalize Value.agg #[.int .u8 2, .int .i64 0, .string ⟨#[120]⟩, .slice none 0 0] = g4
  generalize Value.agg #[.int .u8 2, .int .i64 0, .string ⟨#[121]⟩, .slice none 0 0] = g5
  generalize Value.agg #[.int .u8 1, .int .i64 1, .string ⟨#[]⟩, .slice none 0 0] = g6
  refine range_wpT (gf := 44) (lb := #[.pointer (some ⟨br, 0, none⟩)]) rfl (enters_of Tryd.func44 (by kernel_rfl) rfl) HIT.out (AwO w.heap.size) ?_ ?_ ?_ ?_ (AwI w.heap.size) AwX ?_ ?_ HN.out (AwM w.heap.size w1.heap.size) ?_ ?assign ?body ?done ?stop
  · rintro k (rfl | rfl) <;> omega
  · rintro k (rfl | rfl) ⟨h1, _⟩ <;> rw [hzA] at h1 <;> omega
  · exact fun k h => h.2
  · rintro O x args W ⟨v, a, c, rfl, _⟩; rfl
  · exact fun pre A B h hk => h.keep hL hk
  · exact fun c pre A B h _ => h
  · exact fun x a' A B h hk => h.keep hk
  case assign =>
    rintro m l pre x args W K hI hz ⟨v, a, c, rfl, hp, hr⟩ hK
    have HP := Lib.hid hp
    have HK := Lib.hid hK
    clear hp hr hI hK
    simp only [List.zip_toArray, List.zip_cons_cons, List.zip_nil_right, List.foldl_toArray, List.foldl_cons, List.foldl_nil, List.setIfInBounds_toArray, List.set_cons_zero, List.set_cons_succ]
    gi_wp2
    exact HK.out _ _ (Below.refl _ _) ⟨v, a, c, rfl, HP.out⟩
  case body =>
    rintro m l pre x a' W hpx hI hz ⟨v, a, c, rfl, hp⟩
    have hat := at_of_prefix hpx
    rw [walk_items] at hat
    clear hpx
    have HI := Lib.hid hI
    obtain ⟨h0, h1, h2, h3, h4⟩ := hI
    obtain ⟨pb, po, pc, rfl, hSp, hpc, hpb, hpk⟩ := hp
    have HPK := Lib.hid hpk
    have HSP := Lib.hid hSp
    clear hpk hSp
    simp only [List.setIfInBounds_toArray, List.set_cons_zero, List.set_cons_succ]
    obtain ⟨p, tt⟩ := x
    dsimp only at hpc HPK
    obtain ⟨k, hk⟩ : ∃ k, pre.length = k := ⟨_, rfl⟩
    rw [hk] at h1 h0 hat
    dsimp only
    have HK := Lib.hid hk
    clear hk
    match k, h0 with
    | 0, _ =>
      obtain ⟨rfl, rfl⟩ : p = [] ∧ tt = tWalk := by simpa using hat.symm
      clear hat
      simp only [List.length_nil] at hpc ⊢
      gi_wp2
      gi_region
      all_goals
        gi_wp2
        exact ⟨((Keep.refl _ W).drew).setCell (.inr rfl) _, aw_good HK.out (by omega) _ (by rfl) HI.out.drew⟩
    | 1, _ =>
      obtain ⟨rfl, rfl⟩ : p = [0] ∧ tt = tX := by simpa using hat.symm
      clear hat
      have hc : W.cell? ⟨pb, po, none⟩ = some (.int .i64 0) := HPK.out 0 (by simp)
      have hw0 : IntKind.i64.wrap 0 = 0 := by decide
      simp only [List.length_cons, List.length_nil] at hpc ⊢
      gi_wp2
      gi_region
      all_goals
        gi_wp2
        exact ⟨((Keep.refl _ W).drew).setCell (.inr rfl) _, aw_good HK.out (by omega) _ (by rfl) HI.out.drew⟩
    | 2, _ =>
      obtain ⟨rfl, rfl⟩ : p = [1] ∧ tt = tOne := by simpa using hat.symm
      clear hat
      have hc : W.cell? ⟨pb, po, none⟩ = some (.int .i64 1) := HPK.out 0 (by simp)
      have hw0 : IntKind.i64.wrap 1 = 1 := by decide
      simp only [List.length_cons, List.length_nil] at hpc ⊢
      gi_wp2
      gi_region
      all_goals
        gi_wp2
        exact ⟨((Keep.refl _ W).drew).setCell (.inr rfl) _, aw_good HK.out (by omega) _ (by rfl) HI.out.drew⟩
    | 3, _ => cases hat
  case stop =>
    rintro c q W hq hn
    exact hn.elim
  case done =>
    rintro W ⟨_, h1, h2, h3, h4⟩ hK hD
    have hBW : Below w.heap.size w1 W := hK.below (by omega) (by rintro k (rfl | rfl) <;> omega)
    have HBW := Lib.hid ((HA.below.trans (HB1.out.mono (by omega))).trans hBW)
    have hbk : ∀ b, b < w.heap.size + 8 → b ≠ w.heap.size → b ≠ w.heap.size + 6 → W.heap[b]? = (wA w).heap[b]? := fun b hb h1 h2 =>
      (hK.block b (by rintro (rfl | rfl) <;> omega) (by omega)).trans (HB1.out.block b (by omega))
    have HS : Hid (SumHas w.heap.size W) := by
      have q5 : W.heap[w.heap.size + 1 + 1 + 1 + 1 + 1]? = _ := (hbk _ (by omega) (by omega) (by omega)).trans HA.box
      have hc5 : ∀ o, W.cell? ⟨w.heap.size + 1 + 1 + 1 + 1 + 1, o, none⟩ = (#[.int .u8 40, .int .i64 0, .string ⟨#[]⟩, .slice (some ⟨w.heap.size + 1 + 1 + 1 + 1, 0, none⟩) 2 2] : Array Value)[o]? := by
        intro o; unfold World.cell?; simp only [q5]; rfl
      refine ⟨hc5 0, hc5 1, hc5 2, hc5 3, h1, h3, h4, ?_, HG.out.below HBW.out⟩
      refine awakeSum (hbk _ (by omega) (by omega) (by omega)) (hbk _ (by omega) (by omega) (by omega))
    have HD := Lib.hid hD
    have hzW : w1.heap.size + 1 ≤ W.heap.size := (Array.getElem?_eq_some_iff.1 hD).1
    clear hBW hbk hK h1 h2 h3 h4 hD
    obtain ⟨c0, c1, c2, c3, cn, cr, cf, _, _⟩ := HS.out
    go_wp2_with fail
    refine (size_any tSum _ _ 2 HS.out.sum (by decide)).mono ?_
    rintro e w2 ⟨he, hB⟩
    obtain rfl : e = .returned (.int .i64 5) := he
    have HS2 := Lib.hid (HS.out.below hB)
    have HB2 := Lib.hid (HBW.out.trans (hB.mono HBW.out.size))
    have HD2 : Hid (w2.heap[w1.heap.size]? = some (.deferred (some []))) := (hB.block _ (by omega)).trans HD.out
    have hz2 := Nat.le_trans hzW hB.size
    clear hB c0 c1 c2 c3 cn cr cf
    obtain ⟨c0, c1, c2, c3, cn, cr, cf, _, _⟩ := HS2.out
    go_wp2_with fail
    refine (depth_any tSum _ _ 2 HS2.out.sum (by decide)).mono ?_
    rintro e w3 ⟨he, hB⟩
    obtain rfl : e = .returned (.int .i64 3) := he
    have HS3 := Lib.hid (HS2.out.below hB)
    have HB3 := Lib.hid (HB2.out.trans (hB.mono HB2.out.size))
    have HD3 : Hid (w3.heap[w1.heap.size]? = some (.deferred (some []))) := (hB.block _ (by omega)).trans HD2.out
    have hz3 := Nat.le_trans hz2 hB.size
    clear hB c0 c1 c2 c3 cn cr cf
    obtain ⟨c0, c1, c2, c3, cn, cr, cf, _, _⟩ := HS3.out
    go_wp2_with fail
    refine (nest_any tSum _ _ 2 HS3.out.sum (by decide)).mono ?_
    rintro e w4 ⟨he, hB⟩
    obtain rfl : e = .returned (.int .i64 0) := he
    have HS4 := Lib.hid (HS3.out.below hB)
    have HB4 := Lib.hid (HB3.out.trans (hB.mono HB3.out.size))
    have HD4 : Hid (w4.heap[w1.heap.size]? = some (.deferred (some []))) := (hB.block _ (by omega)).trans HD3.out
    have hz4 := Nat.le_trans hz3 hB.size
    clear hB c0 c1 c2 c3 cn cr cf
    obtain ⟨c0, c1, c2, c3, cn, cr, cf, _, _⟩ := HS4.out
    go_wp2_with fail
    refine (isStmt_any tSum _ _ 2 HS4.out.sum HS4.out.signs).mono ?_
    rintro e w5 ⟨he, hB⟩
    rw [sum_stmt] at he
    obtain rfl : e = .returned (.bool true) := he
    have HS5 := Lib.hid (HS4.out.below hB)
    have HB5 := Lib.hid (HB4.out.trans (hB.mono HB4.out.size))
    have HD5 : Hid (w5.heap[w1.heap.size]? = some (.deferred (some []))) := (hB.block _ (by omega)).trans HD4.out
    have hz5 := Nat.le_trans hz4 hB.size
    clear hB c0 c1 c2 c3 cn cr cf
    obtain ⟨c0, c1, c2, c3, cn, cr, cf, _, _⟩ := HS5.out
    go_wp2_with fail
    refine (isBlock_any tSum _ _ 2 HS5.out.sum HS5.out.signs).mono ?_
    rintro e w6 ⟨he, hB⟩
    rw [sum_block] at he
    obtain rfl : e = .returned (.bool false) := he
    have HS6 := Lib.hid (HS5.out.below hB)
    have HB6 := Lib.hid (HB5.out.trans (hB.mono HB5.out.size))
    have HD6 : Hid (w6.heap[w1.heap.size]? = some (.deferred (some []))) := (hB.block _ (by omega)).trans HD5.out
    have hz6 := Nat.le_trans hz5 hB.size
    clear hB c0 c1 c2 c3 cn cr cf
    obtain ⟨c0, c1, c2, c3, cn, cr, cf, _, _⟩ := HS6.out
    go_wp2_with fail
    refine (isExpr_any tSum _ _ 2 HS6.out.sum HS6.out.signs).mono ?_
    rintro e w7 ⟨he, hB⟩
    rw [sum_expr] at he
    obtain rfl : e = .returned (.bool false) := he
    have HS7 := Lib.hid (HS6.out.below hB)
    have HB7 := Lib.hid (HB6.out.trans (hB.mono HB6.out.size))
    have HD7 : Hid (w7.heap[w1.heap.size]? = some (.deferred (some []))) := (hB.block _ (by omega)).trans HD6.out
    have hz7 := Nat.le_trans hz6 hB.size
    clear hB c0 c1 c2 c3 cn cr cf
    obtain ⟨c0, c1, c2, c3, cn, cr, cf, _, _⟩ := HS7.out
    go_wp2_with fail
    have hK9 : (w7.setCell ⟨w.heap.size, 0, none⟩ (.bool true)).heap[w1.heap.size]? = some (.deferred (some [])) := (Below.heap_setCell _ _ _ _ (by show w1.heap.size ≠ w.heap.size; omega)).trans HD7.out
    have hr9 : ((w7.setCell ⟨w.heap.size, 0, none⟩ (.bool true)).putObj w1.heap.size (.deferred none)).cell? ⟨w.heap.size, 0, none⟩ = some (.bool true) :=
      (World.cell?_of_block (a := ⟨w.heap.size, 0, none⟩) (World.putObj_heap_other (by show w.heap.size ≠ w1.heap.size; omega))).trans (World.cell?_setCell_same' _ _ _ (by rw [cr]; rfl))
    refine ⟨by simp, .inl ⟨_, _, rfl, run_takeDeferred hK9, ?_⟩⟩
    refine ⟨.bool true, by simp [results, Tryd.results12, go_sem, hr9], rfl, ?_⟩
    have hb9 := HB7.out.setCell (p := ⟨w.heap.size, 0, none⟩) (Nat.le_refl _) (.bool true)
    exact ⟨hb9.os, hb9.tape, hb9.output, by have := hb9.size; simpa using this, fun k hk => (World.putObj_heap_other (by omega)).trans (hb9.block k hk)⟩
end Go.Proofs.YtfkegjdgbnkicaaDoor
