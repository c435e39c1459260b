/-
  Contract: where (package ontimelaw15): the paths of the nodes that are wanted, in pre-order.
-/
import Derived.Test.YtnegdmhmhdojbaaDoorAstWalks
import Derived.Test.YtnegdmhmhdojbaaDoorKepts
import Derived.Test.YtnegdmhmhdojbaaDoorChkPlains
import Derived.Laws.EntriesVeiled
import Derived.WalkLawsBesides
import Derived.BigGuardIn
import Derived.BigRegionIn
import Derived.Maps.OwnIn
namespace Go.Proofs.YtnegdmhmhdojbaaDoor
set_option linter.unusedVariables false
set_option linter.unusedSimpArgs false
open Go.RowKit
set_option maxRecDepth 100000
attribute [local go_sem] Oper.semAt_some undef

/-- the paths of the nodes that are wanted -/
def wantP (f : Tree → Bool) (l : List (List Int × Tree)) : List (List Int) := (l.filter (fun x => f x.2)).map (·.1)
theorem wantP_snoc (f : Tree → Bool) (l : List (List Int × Tree)) (x : List Int × Tree) : wantP f (l ++ [x]) = if f x.2 = true then wantP f l ++ [x.1] else wantP f l := by
  unfold wantP
  rw [List.filter_append, List.map_append]
  by_cases h : f x.2 = true
  · rw [if_pos h]; simp [h]
  · rw [if_neg h]; simp [h]
theorem wantP_le (f : Tree → Bool) (l : List (List Int × Tree)) : (wantP f l).length ≤ l.length := by
  unfold wantP; rw [List.length_map]; exact List.length_filter_le _ _
/-- a row of paths that is being collected in the variable at block K; from L on: the loop's own -/
structure KpI (K L : Nat) (ps : List (List Int)) (B : Nat → Prop) (W : World) : Prop where
  kept : ∃ kv vs, W.heap[K]? = some (.cells #[kv] 50 (0, 0)) ∧ KRow (fun k => k ≠ K ∧ ¬ (L ≤ k ∧ k ≤ L + 1)) W kv ps vs ∧ (∀ b, kv.ownBlock = some b → L + 2 ≤ b) ∧ (∀ k, B k ↔ k = K ∨ kv.ownBlock = some k)
  l : K < L
theorem KpI.keep {K L : Nat} {ps : List (List Int)} {B : Nat → Prop} {A C : World} (h : KpI K L ps B A) (hk : Keep (fun k => L ≤ k ∧ k ≤ L + 1) A C) : KpI K L ps B C := by
  have hl := h.l
  obtain ⟨kv, vs, k1, k2, k3, k4⟩ := h.kept
  refine ⟨⟨kv, vs, (hk.block _ (by omega) (mem_lt k1)).trans k1, k2.move hk.size (fun k hq hl => hk.block k ?_ hl), k3, k4⟩, h.l⟩
  rcases hq with hq | hq
  · exact hq.2
  · have := k3 k hq; omega
theorem KpI.same {K L : Nat} {ps : List (List Int)} {B : Nat → Prop} {A C : World} (h : KpI K L ps B A) (hk : Below A.heap.size A C) : KpI K L ps B C := by
  obtain ⟨kv, vs, k1, k2, k3, k4⟩ := h.kept
  exact ⟨⟨kv, vs, mem_keep k1 hk, k2.move hk.size (fun k _ hl => hk.block k hl), k3, k4⟩, h.l⟩
theorem kp_next {K L : Nat} {kv kv' v : Value} {vs : List Value} {B : Nat → Prop} {ps : List (List Int)} {x : List Int} {W W7 w9 : World} (hl : K < L) (hL : L + 2 ≤ W.heap.size)
    (k1 : W.heap[K]? = some (.cells #[kv] 50 (0, 0))) (k2 : KRow (fun k => k ≠ K ∧ ¬ (L ≤ k ∧ k ≤ L + 1)) W kv ps vs) (k3 : ∀ b, kv.ownBlock = some b → L + 2 ≤ b) (k4 : ∀ k, B k ↔ k = K ∨ kv.ownBlock = some k)
    (hp : PathIn (fun k => ¬ (B k ∨ (L ≤ k ∧ k ≤ L + 1))) W v x) (hB : Below W.heap.size W W7)
    (ho : w9.ownsRow 0 33 1 kv' (ps.length + 1) (vs ++ [v])) (hg : (W7.alloc (.cells #[v] 33)).grownBy w9 kv.ownBlock) (hpl : kv'.ownBlock = kv.ownBlock ∨ kv'.ownBlock = some (W7.alloc (.cells #[v] 33)).heap.size) :
    Keep B W (w9.setCell ⟨K, 0, none⟩ kv') ∧ ∃ B' : Nat → Prop, (∀ k, B' k → B k ∨ W.heap.size ≤ k) ∧ (∀ k, B' k → k < (w9.setCell ⟨K, 0, none⟩ kv').heap.size) ∧ KpI K L (ps ++ [x]) B' (w9.setCell ⟨K, 0, none⟩ kv') := by
  have hB8 : Below W.heap.size W (W7.alloc (.cells #[v] 33)) := hB.alloc hB.size _
  have hz8 := hB8.size
  have hK1 : K < W.heap.size := mem_lt k1
  have hz9 := hg.size
  have hown := fun b (hb : kv.ownBlock = some b) => krow_lt k2 hb
  have hk : ∀ k, k < W.heap.size → k ≠ K → kv.ownBlock ≠ some k → (w9.setCell ⟨K, 0, none⟩ kv').heap[k]? = W.heap[k]? := fun k h1 h2 h3 =>
    (Below.heap_setCell _ _ _ _ h2).trans ((hg.block k (by omega) (fun e => h3 e.symm)).trans (hB8.block k h1))
  have hsz : (w9.setCell ⟨K, 0, none⟩ kv').heap.size = w9.heap.size := by simp
  have hcell : w9.heap[K]? = some (.cells #[kv] 50 (0, 0)) := (hg.block _ (by omega) (fun e => by have := k3 _ e.symm; omega)).trans ((hB8.block _ hK1).trans k1)
  refine ⟨⟨hg.os.trans hB8.os, hg.tape.trans hB8.tape, hg.output.trans hB8.output, by rw [hsz]; omega, fun k hb h2 => hk k h2 (fun e => hb ((k4 k).2 (.inl e))) (fun e => hb ((k4 k).2 (.inr e)))⟩, ?_⟩
  have hplace : ∀ b, kv'.ownBlock = some b → L + 2 ≤ b ∧ b < w9.heap.size ∧ (kv.ownBlock = some b ∨ W.heap.size ≤ b) := by
    intro b hb
    have hlt : b < w9.heap.size := (own_lt ho hb).2
    rcases hpl with e | e
    · exact ⟨k3 b (e.symm.trans hb), hlt, .inl (e.symm.trans hb)⟩
    · rw [e] at hb
      have : (W7.alloc (.cells #[v] 33)).heap.size = b := by simpa using hb
      exact ⟨by omega, hlt, .inr (by omega)⟩
  refine ⟨fun k => k = K ∨ kv'.ownBlock = some k, fun k hb => ?_, fun k hb => ?_, ?_⟩
  · rcases hb with e | e
    · exact .inl ((k4 k).2 (.inl e))
    · rcases (hplace k e).2.2 with q | q
      · exact .inl ((k4 k).2 (.inr q))
      · exact .inr q
  · rw [hsz]
    rcases hb with e | e
    · omega
    · exact (hplace k e).2.1
  · have hp8 : PathIn (fun k => (k ≠ K ∧ ¬ (L ≤ k ∧ k ≤ L + 1)) ∧ kv.ownBlock ≠ some k) (W7.alloc (.cells #[v] 33)) v x :=
      (hp.below hB8).move (Nat.le_refl _) (fun _ _ _ => rfl) (fun k hk _ => ⟨⟨fun e => hk (.inl ((k4 k).2 (.inl e))), fun e => hk (.inr e)⟩, fun e => hk (.inl ((k4 k).2 (.inr e)))⟩)
    have k2' : KRow (fun k => k ≠ K ∧ ¬ (L ≤ k ∧ k ≤ L + 1)) (W7.alloc (.cells #[v] 33)) kv ps vs := k2.move hz8 (fun k _ hl => hB8.block k hl)
    have k9 := k2'.step hp8 ho hg hpl
    refine ⟨⟨kv', vs ++ [v], one_setCell hcell, ?_, fun b hb => (hplace b hb).1, fun k => Iff.rfl⟩, hl⟩
    refine k9.move (by rw [hsz]; exact Nat.le_refl _) (fun k hq hl => Below.heap_setCell _ _ _ _ ?_)
    rcases hq with hq | hq
    · exact hq.1
    · have := (hplace k hq).1; show k ≠ K; omega
/-- what holds ahead of each round -/
structure WhI (f : Tree → Bool) (fv : Value) (w : World) (F K L : Nat) (B : Nat → Prop) (pre : List (List Int × Tree)) (W : World) : Prop where
  row : KpI K L (wantP f pre) B W
  fn : W.heap[F]? = some (.cells #[fv] 61 (0, 0))
  bel : Below w.heap.size w W
theorem WhI.keep {f : Tree → Bool} {fv : Value} {w : World} {F K L : Nat} {B : Nat → Prop} {pre : List (List Int × Tree)} {A C : World} (h : WhI f fv w F K L B pre A) (hF : F < L) (hL : w.heap.size ≤ L) (hk : Keep (fun k => L ≤ k ∧ k ≤ L + 1) A C) : WhI f fv w F K L B pre C :=
  ⟨h.row.keep hk, (hk.block _ (by omega) (mem_lt h.fn)).trans h.fn, ⟨hk.os.trans h.bel.os, hk.tape.trans h.bel.tape, hk.output.trans h.bel.output, Nat.le_trans h.bel.size hk.size, fun k hl => (hk.block k (by omega) (by have := h.bel.size; omega)).trans (h.bel.block k hl)⟩⟩
/-- the frame of a round -/
def WhM (L : Nat) (T : Array Value) (B : Nat → Prop) (x : List Int × Tree) (a' : Act) (W : World) : Prop :=
  ∃ v a c bx, a' = { tmps := (((T.setIfInBounds 10 v).setIfInBounds 11 (x.2.val a c)).setIfInBounds 6 v).setIfInBounds 7 (.pointer (some ⟨bx, 0, none⟩)), defers := [] } ∧
    PathIn (fun k => ¬ (B k ∨ (L ≤ k ∧ k ≤ L + 1))) W v x.1 ∧ RepIn (fun k => ¬ (B k ∨ (L ≤ k ∧ k ≤ L + 1))) W x.2 a ∧ W.heap[bx]? = some (boxObj x.2 a c) ∧ L + 2 ≤ bx
theorem WhM.keep {L : Nat} {T : Array Value} {B : Nat → Prop} {x : List Int × Tree} {a' : Act} {A C : World} (h : WhM L T B x a' A) (hk : Keep (fun k => L ≤ k ∧ k ≤ L + 1) A C) : WhM L T B x a' C := by
  obtain ⟨v, a, c, bx, h1, h2, h3, h4, h5⟩ := h
  exact ⟨v, a, c, bx, h1, h2.move hk.size (fun k hS hl => hk.block k (fun h => hS (.inr h)) hl) (fun _ h _ => h), h3.move (fun k hS hl => hk.block k (fun h => hS (.inr h)) hl) (fun _ h _ => h),
    (hk.block bx (fun h => by have := h.2; omega) (mem_lt h4)).trans h4, h5⟩
theorem own_cap {w : World} {base : Nat} {e : TypeId} {size : Nat} {a : Option Addr} {n c : Nat} {xs : List Value} (h : w.ownsRow base e size (.slice a n c) n xs) : n ≤ c := by
  rcases h.2 with ⟨h0, rfl⟩ | ⟨g, cap, cur, hv, _, _, h1, _⟩
  · exact Nat.zero_le _
  · injection hv with _ _ hv
    omega
/-- a row of paths, each within its room -/
def PathsCap (w : World) (a : Option Addr) (ps : List (List Int)) : Prop := ∀ i, i < ps.length → ∃ b off v, a = some ⟨b, off, none⟩ ∧ w.cell? ⟨b, off + i, none⟩ = some v ∧ PathAt w v (ps.getD i [])
/-- a row that is collected can be read -/
theorem KRow.paths {T : Nat → Prop} {w : World} {v : Value} {ps : List (List Int)} {vs : List Value} (h : KRow T w v ps vs) (hl : ∀ p ∈ ps, p.length ≤ 1000000) : ∃ a c, v = .slice a ps.length c ∧ PathsAt w a ps ∧ ps.length ≤ c ∧ PathsCap w a ps := by
  obtain ⟨a, c, rfl⟩ := own_val h.own
  refine ⟨a, c, rfl, ⟨own_size h.own, fun i hi => ?_⟩, own_cap h.own, fun i hi => ?_⟩
  rotate_left
  · obtain ⟨g, rfl, _, _⟩ := own_at h.own (by omega)
    have hvl := h.len
    have hu : vs[i]? = some vs[i] := List.getElem?_eq_getElem (by omega)
    have hd : ps.getD i [] = ps[i] := by simp [hi]
    exact ⟨g, 0, vs[i], rfl, by rw [Nat.zero_add]; exact own_get h.own hu, by rw [hd]; exact (h.each i _ _ (List.getElem?_eq_getElem hi) hu).at⟩
  obtain ⟨g, rfl, _, _⟩ := own_at h.own (by omega)
  have hp : ps[i]? = some ps[i] := List.getElem?_eq_getElem hi
  have hvl := h.len
  have hu : vs[i]? = some vs[i] := List.getElem?_eq_getElem (by omega)
  have hg := own_get h.own hu
  obtain ⟨pb, po, pc, h1, h2, h3, h4, h5⟩ := h.each i _ _ hp hu
  have hd : ps.getD i [] = ps[i] := by simp [hi]
  refine ⟨g, 0, some ⟨pb, po, none⟩, pc, rfl, ?_, ?_⟩
  · rw [Nat.zero_add, hg, h1, hd]
  · rw [hd]
    have := hl _ (List.getElem_mem hi)
    exact ⟨by omega, fun j hj => ⟨pb, po, rfl, h5 j hj⟩⟩

set_option maxHeartbeats 40000000 in
theorem where_cap2 (f : Tree → Bool) (gf : Nat) (lb : Array Value) (eg : ∀ args w, (callFunc gf args).run Tryd.prog w = .ok (.enter gf args) w) (t : Tree) (w : World) (a : Option Addr) (c : Nat) (ht : Rep w t a) (hs : t.size ≤ 1000000) (hd : t.depth ≤ 10000)
    (hf : ∀ (x : Tree) (W : World) (a : Option Addr) (c : Nat), Below w.heap.size w W → Rep W x a → Calls Tryd.prog gf (#[x.val a c] ++ lb) W fun e W' => e = .returned (.bool (f x)) ∧ Below W.heap.size W W') :
    Calls Tryd.prog 29 #[t.val a c, .func (.func gf) #[] lb] w fun e w' => ∃ a' c', e = .returned (.slice a' (wantP f (t.items [])).length c') ∧ PathsAt w' a' (wantP f (t.items [])) ∧ Below w.heap.size w w' ∧ (wantP f (t.items [])).length ≤ c' ∧ PathsCap w' a' (wantP f (t.items [])) := by
  have HT := Lib.hid ht
  have HF := Lib.hid hf
  have HDD := Lib.hid hd
  clear ht hf
  obtain ⟨i0, hi, hz0, hz1, hz2⟩ := info_parts Tryd.infoInts
  obtain ⟨A1, hA1⟩ : ∃ A1 : World, w.alloc (boxObj t a c) = A1 := ⟨_, rfl⟩
  have hB1 : Below w.heap.size w A1 := by rw [← hA1]; exact mem_alloc _ _
  have hs1 : A1.heap.size = w.heap.size + 1 := by rw [← hA1]; simp
  have hx1 : A1.heap[w.heap.size]? = some (boxObj t a c) := by rw [← hA1]; exact mem_new _ _
  obtain ⟨A2, hA2⟩ : ∃ A2 : World, A1.alloc (.cells #[.func (.func gf) #[] lb] 61) = A2 := ⟨_, rfl⟩
  have hB2 : Below A1.heap.size A1 A2 := by rw [← hA2]; exact mem_alloc _ _
  have hs2 : A2.heap.size = w.heap.size + 2 := by rw [← hA2]; simp [hs1]
  have hx2 : A2.heap[w.heap.size + 1]? = some (.cells #[.func (.func gf) #[] lb] 61) := by rw [← hA2, ← hs1]; exact mem_new _ _
  obtain ⟨A3, hA3⟩ : ∃ A3 : World, A2.alloc (.cells #[.slice none 0 0] 50) = A3 := ⟨_, rfl⟩
  have hB3 : Below A2.heap.size A2 A3 := by rw [← hA3]; exact mem_alloc _ _
  have hs3 : A3.heap.size = w.heap.size + 3 := by rw [← hA3]; simp [hs2]
  have hx3 : A3.heap[w.heap.size + 2]? = some (.cells #[.slice none 0 0] 50) := by rw [← hA3, ← hs2]; exact mem_new _ _
  have hx13 : A3.heap[w.heap.size]? = some (boxObj t a c) := mem_keep (mem_keep hx1 hB2) hB3
  have hx23 : A3.heap[w.heap.size + 1]? = some (.cells #[.func (.func gf) #[] lb] 61) := mem_keep hx2 hB3
  have HB : Hid (Below w.heap.size w A3) := mem_then (mem_then hB1 hB2) hB3
  obtain ⟨⟨f0, f1, f2, f3⟩, _⟩ := blk4 hx13
  have HS1 := Lib.hid hs1
  have HS2 := Lib.hid hs2
  have HS3 := Lib.hid hs3
  have HX2 := Lib.hid hx23
  have HX3 := Lib.hid hx3
  clear hB1 hB2 hB3 hx1 hx2 hx3 hx13 hx23 hs1 hs2 hs3
  have hk1 : A1.heap.size < A2.heap.size := by have := HS1.out; have := HS2.out; omega
  have hk2 : A2.heap.size < A3.heap.size := by have := HS3.out; have := HS2.out; omega
  have hk0 : w.heap.size < A1.heap.size := by have := HS1.out; omega
  have HX2 : Hid (A3.heap[A1.heap.size]? = some (.cells #[.func (.func gf) #[] lb] 61)) := by show _ = _; rw [HS1.out]; exact HX2.out
  have HX3 : Hid (A3.heap[A2.heap.size]? = some (.cells #[.slice none 0 0] 50)) := by show _ = _; rw [HS2.out]; exact HX3.out
  refine (callsIn_wide (n := 0)).1 (callsIn_of_wp_marks Tryd.func29 rfl trivial ?_ rfl)
  refine wpIn_wide.2 ?_
  simp only [Tryd.ntmps29, List.size_toArray, List.length_cons, List.length_nil, Nat.reduceAdd, Nat.reduceSub, Array.replicate_succ, Array.replicate_zero, List.push_toArray, List.append_toArray, List.nil_append, List.cons_append]
  go_wp2_with fail
  clear hA1 hA2 hA3 f0 f1 f2 f3 HS1 HS2 HS3
  refine (walk_any t A3 a c (HT.out.below HB.out) hs HDD.out).mono ?_
  rintro e w4 ⟨br, rfl, hB4, hit⟩
  have HIT := Lib.hid hit
  have hz4 : A3.heap.size ≤ w4.heap.size := hB4.size
  have HBW4 : Hid (Below w.heap.size w w4) := HB.out.trans (hB4.mono HB.out.size)
  have HINV : Hid (WhI f (.func (.func gf) #[] lb) w A1.heap.size A2.heap.size w4.heap.size (fun k => k = A2.heap.size) [] w4) := by
    refine ⟨⟨⟨.slice none 0 0, [], (hB4.block _ hk2).trans HX3.out, ⟨World.ownsRow_nil _ _ _ _, fun i p u hp _ => (by simp [wantP] at hp)⟩, (fun b hb => (by cases hb)), fun k => ?_⟩, by omega⟩, (hB4.block _ (by omega)).trans HX2.out, HBW4.out⟩
    constructor
    · exact fun h => .inl h
    · rintro (h | h)
      · exact h
      · cases h
  clear hit hB4
  go_wp2_with fail
  refine range_wpD (gf := 72) (lb := #[.pointer (some ⟨br, 0, none⟩)]) rfl (enters_of Tryd.func72 (by kernel_rfl) rfl) HIT.out (fun k => k = A2.heap.size) ?_ ?_ ?_ ?_ (WhI f (.func (.func gf) #[] lb) w A1.heap.size A2.heap.size w4.heap.size) (fun _ _ _ => False) ?_ ?_ HINV.out (WhM w4.heap.size) ?_ ?assign ?body ?done ?stop
  · rintro k rfl; omega
  · rintro k rfl ⟨h1, _⟩; omega
  · exact fun k h => h.2
  · rintro O x args W ⟨v, a, c, rfl, _⟩; rfl
  · exact fun B pre A C h hk => h.keep (by omega) (by omega) hk
  · exact fun c pre A B h _ => h
  · exact fun B x a' A C h hk => h.keep hk
  case assign =>
    rintro m l pre x args W K B hI hlB hz ⟨v, a5, c5, rfl, hp, hr⟩ hK
    have HP := Lib.hid hp
    have HR5 := Lib.hid hr
    have HK := Lib.hid hK
    have HBX : Hid (Below W.heap.size W (W.alloc (boxObj x.2 a5 c5))) := (Below.refl _ _).alloc (Nat.le_refl _) _
    clear hp hr hI hK hlB
    simp only [List.zip_toArray, List.zip_cons_cons, List.zip_nil_right, List.foldl_toArray, List.foldl_cons, List.foldl_nil, List.setIfInBounds_toArray, List.set_cons_zero, List.set_cons_succ]
    gi_wp2
    exact HK.out _ _ HBX.out ⟨v, a5, c5, W.heap.size, rfl, HP.out.below HBX.out, HR5.out.move (fun k _ hk => HBX.out.block k hk) (fun _ h _ => h), World.alloc_heap_new W _, by omega⟩
  case body =>
    rintro m l pre x a' W B hpx hI hsB hlB hz ⟨v, a5, c5, bx, rfl, hp, hr, hbx, hbl⟩
    obtain ⟨vb, vo, vc, rfl, _⟩ := id hp
    have hpl : pre.length < t.size := by
      obtain ⟨r, hr⟩ := hpx
      have h1 := its_length t
      rw [← hr] at h1
      simp at h1
      omega
    have HWL : Hid ((wantP f pre).length ≤ pre.length) := wantP_le f pre
    have HI := Lib.hid hI
    have HP := Lib.hid hp
    have HR5 := Lib.hid hr.rep
    have HBX := Lib.hid hbx
    have HLB := Lib.hid hlB
    obtain ⟨kv, vs, hk1', hk2', hk3', hk4'⟩ := hI.row.kept
    have HK1 := Lib.hid hk1'
    have HK2 := Lib.hid hk2'
    have HK3 := Lib.hid hk3'
    have HK4 := Lib.hid hk4'
    obtain ⟨ka, kc, rfl⟩ := own_val hk2'.own
    have cf := cell_of_one hI.fn
    obtain ⟨⟨b0, b1, b2, b3⟩, _⟩ := blk4 hbx
    have hbxl : bx < W.heap.size := mem_lt hbx
    have hdd : ∀ k : Nat, ((Fence.wide.inRound l).depth.isSome = true → 1 ≤ k) := fun k h => by cases h
    have HCL : Hid (∀ n, CallsIn (Fence.wide.inRound l) n Tryd.prog gf (#[x.2.val a5 c5] ++ lb) W (fun e w'' => e = .returned (.bool (f x.2)) ∧ Below W.heap.size W w'')) := fun n => CallsIn.inRound l (callsIn_wide.2 (HF.out x.2 W a5 c5 HI.out.bel HR5.out))
    clear hr hp hI hbx hk1' hk2' hk3' hk4' hsB hlB hpx
    simp only [List.setIfInBounds_toArray, List.set_cons_zero, List.set_cons_succ]
    gi_wp2
    refine ⟨trivial, hdd _, ?_⟩
    with_reducible refine (HCL.out _).mono ?_
    rintro e w8 ⟨rfl, hB8⟩
    have HB8 := Lib.hid hB8
    have hz8 : W.heap.size ≤ w8.heap.size := hB8.size
    have HS := Lib.hid (wantP_snoc f pre x)
    clear hB8 b0 b1 b2 b3 cf
    cases hfx : f x.2 with
    | false =>
      have HN : Hid (wantP f (pre ++ [x]) = wantP f pre) := by show _ = _; rw [HS.out, hfx]; rfl
      clear hfx
      gi_wp2
      refine ⟨⟨HB8.out.os, HB8.out.tape, HB8.out.output, HB8.out.size, fun k _ hk => HB8.out.block k hk⟩, B, fun k hk => .inl hk, fun k hk => Nat.lt_of_lt_of_le (HLB.out k hk) hz8, ?_⟩
      refine ⟨?_, mem_keep HI.out.fn HB8.out, HI.out.bel.trans (HB8.out.mono HI.out.bel.size)⟩
      rw [HN.out]
      exact HI.out.row.same HB8.out
    | true =>
      have HN : Hid (wantP f (pre ++ [x]) = wantP f pre ++ [x.1]) := by show _ = _; rw [HS.out, hfx]; rfl
      clear hfx
      have HK8 : Hid (w8.heap[A2.heap.size]? = some (.cells #[.slice ka (wantP f pre).length kc] 50 (0, 0))) := mem_keep HK1.out HB8.out
      have hK8l : A2.heap.size < w8.heap.size := mem_lt HK8.out
      have ck := cell_of_one HK8.out
      have fk := free_of_one HK8.out
      have HOWN8 : Hid ((w8.alloc (.cells #[.slice (some ⟨vb, vo, none⟩) x.1.length vc] 33)).ownsRow 0 33 1 (.slice ka (wantP f pre).length kc) (wantP f pre).length vs) :=
        (HK2.out.move (Nat.le_trans hz8 (by simp)) (w' := w8.alloc (.cells #[.slice (some ⟨vb, vo, none⟩) x.1.length vc] 33)) (fun k _ hl => (HB8.out.alloc hz8 _).block k hl)).own
      obtain ⟨nw, hnw⟩ : ∃ nw, (wantP f pre).length = nw := ⟨_, rfl⟩
      have hnl : nw ≤ 1000000 := by have := HWL.out; omega
      have HNW := Lib.hid hnw
      rw [hnw] at HOWN8 ck HK8
      clear hnw
      gi_wp2_with (gi_at_builtin; refine wpListIn_append_own_at _ rfl (.tmp 15) (.tmp 17) 50 rfl 0 33 i0 _ 1 24 Tryd.underlying50 hi hz0 hz1 hz2 rfl (by decide) _ nw vs rfl HOWN8.out ⟨w8.heap.size, 0, none⟩ 1 1 [.slice (some ⟨vb, vo, none⟩) x.1.length vc] rfl rfl ?d1 ?d2 ?d3 ?d4 ?d5 ?_)
      case d1 =>
        intro i q hq
        match i, hq with
        | 0, hq => simp at hq; subst hq; exact World.cell?_alloc_new _ _ _ 0
        | i + 1, hq => simp at hq
      case d2 => intro q hq; simp at hq; subst hq; rfl
      case d3 => unfold maxLen; omega
      case d4 => omega
      case d5 => exact Nat.zero_le _
      intro kv' w9 ho hgr _ hpl2
      have hpl3 : kv'.ownBlock = (Value.slice ka nw kc).ownBlock ∨ kv'.ownBlock = some (w8.alloc (.cells #[.slice (some ⟨vb, vo, none⟩) x.1.length vc] 33)).heap.size := by simpa using hpl2
      have HEND := Lib.hid (kp_next HI.out.row.l hz HK1.out HK2.out HK3.out HK4.out HP.out HB8.out (by rw [HNW.out]; exact ho) (by rw [HNW.out]; exact hgr) (by rw [HNW.out]; exact hpl3))
      have HK9 : Hid (w9.heap[A2.heap.size]? = some (.cells #[.slice ka nw kc] 50 (0, 0))) := (hgr.block _ (by simp; omega) (fun e => by have h1 := HK3.out _ (by rw [HNW.out]; exact e.symm); have h2 := HI.out.row.l; omega)).trans ((Below.heap_alloc _ _ _ hK8l).trans HK8.out)
      have HF9 : Hid (w9.heap[A1.heap.size]? = some (.cells #[.func (.func gf) #[] lb] 61 (0, 0))) := (hgr.block _ (by simp; omega) (fun e => by have h1 := HK3.out _ (by rw [HNW.out]; exact e.symm); have h2 := HI.out.row.l; omega)).trans ((Below.heap_alloc _ _ _ (by omega)).trans (mem_keep HI.out.fn HB8.out))
      have HW9 : Hid (Below w.heap.size w w9) := by
        have h1 : Below w.heap.size w (w8.alloc (.cells #[.slice (some ⟨vb, vo, none⟩) x.1.length vc] 33)) := (HI.out.bel.trans (HB8.out.mono HI.out.bel.size)).alloc (by have := HI.out.bel.size; omega) _
        exact h1.grown hgr h1.size (fun k hk => by have h3 := HK3.out k (by rw [HNW.out]; exact hk); have h2 := HI.out.row.l; omega)
      have ck9 := cell_of_one HK9.out
      have fk9 := free_of_one HK9.out
      obtain ⟨ka', kc', rfl⟩ := own_val ho
      clear ho hgr hpl2 hpl3 ck fk
      gi_wp2
      refine ⟨HEND.out.1, ?_⟩
      obtain ⟨B', e1, e2, e3⟩ := HEND.out.2
      refine ⟨B', e1, e2, ?_, (Below.heap_setCell _ _ _ _ (by show A1.heap.size ≠ A2.heap.size; omega)).trans HF9.out, HW9.out.setCell (p := ⟨A2.heap.size, 0, none⟩) (by show w.heap.size ≤ A2.heap.size; omega) _⟩
      rw [HN.out]
      exact e3
  case stop =>
    rintro c q W hq hn
    exact hn.elim
  case done =>
    rintro W B hI hsB hK hD
    obtain ⟨kv, vs, hk1', hk2', hk3', _⟩ := hI.row.kept
    have HL := Lib.hid hI.row.l
    have HBW := Lib.hid hI.bel
    have hm : KRow (fun k => k ≠ A2.heap.size ∧ ¬ (w4.heap.size ≤ k ∧ k ≤ w4.heap.size + 1)) (W.putObj w4.heap.size (.deferred none)) kv (wantP f (t.items [])) vs := hk2'.move (by simp) (fun k hq hl => World.putObj_heap_other (by
      rcases hq with hq | hq
      · have := hq.2; omega
      · have := hk3' k hq; omega))
    obtain ⟨ka, kc, rfl, hps, hpc, hpp⟩ := hm.paths (fun p hp => by
      obtain ⟨y, hy, rfl⟩ := List.mem_map.1 hp
      have := path_le (List.mem_filter.1 hy).1
      have := HDD.out
      omega)
    have HPS := Lib.hid hps
    have HPC := Lib.hid hpc
    have HPP := Lib.hid hpp
    have HK1 := Lib.hid hk1'
    have HD := Lib.hid hD
    have ck := cell_of_one HK1.out
    clear hI hK hD hk1' hk2' hk3' hsB hps hpc hpp hm
    go_wp2_with fail
    refine ⟨by simp, .inl ⟨_, _, rfl, run_takeDeferred HD.out, ?_⟩⟩
    refine ⟨.slice ka (wantP f (t.items [])).length kc, by simp [results, Tryd.results29, go_sem], ?_⟩
    refine ⟨ka, kc, rfl, HPS.out, ?_, HPC.out, HPP.out⟩
    have hb9 := HBW.out
    exact ⟨hb9.os, hb9.tape, hb9.output, by have := hb9.size; simpa using this, fun k hk => (World.putObj_heap_other (by have := HBW4.out.size; omega)).trans (hb9.block k hk)⟩
theorem where_cap (f : Tree → Bool) (gf : Nat) (lb : Array Value) (eg : ∀ args w, (callFunc gf args).run Tryd.prog w = .ok (.enter gf args) w) (t : Tree) (w : World) (a : Option Addr) (c : Nat) (ht : Rep w t a) (hs : t.size ≤ 1000000) (hd : t.depth ≤ 10000)
    (hf : ∀ (x : Tree) (W : World) (a : Option Addr) (c : Nat), Below w.heap.size w W → Rep W x a → Calls Tryd.prog gf (#[x.val a c] ++ lb) W fun e W' => e = .returned (.bool (f x)) ∧ Below W.heap.size W W') :
    Calls Tryd.prog 29 #[t.val a c, .func (.func gf) #[] lb] w fun e w' => ∃ a' c', e = .returned (.slice a' (wantP f (t.items [])).length c') ∧ PathsAt w' a' (wantP f (t.items [])) ∧ Below w.heap.size w w' ∧ (wantP f (t.items [])).length ≤ c' :=
  (where_cap2 f gf lb eg t w a c ht hs hd hf).mono fun e w' ⟨a', c', h1, h2, h3, h4, _⟩ => ⟨a', c', h1, h2, h3, h4⟩
theorem where_any (f : Tree → Bool) (gf : Nat) (lb : Array Value) (eg : ∀ args w, (callFunc gf args).run Tryd.prog w = .ok (.enter gf args) w) (t : Tree) (w : World) (a : Option Addr) (c : Nat) (ht : Rep w t a) (hs : t.size ≤ 1000000) (hd : t.depth ≤ 10000)
    (hf : ∀ (x : Tree) (W : World) (a : Option Addr) (c : Nat), Below w.heap.size w W → Rep W x a → Calls Tryd.prog gf (#[x.val a c] ++ lb) W fun e W' => e = .returned (.bool (f x)) ∧ Below W.heap.size W W') :
    Calls Tryd.prog 29 #[t.val a c, .func (.func gf) #[] lb] w fun e w' => ∃ a' c', e = .returned (.slice a' (wantP f (t.items [])).length c') ∧ PathsAt w' a' (wantP f (t.items [])) ∧ Below w.heap.size w w' :=
  (where_cap f gf lb eg t w a c ht hs hd hf).mono fun e w' ⟨a', c', h1, h2, h3, _⟩ => ⟨a', c', h1, h2, h3⟩
end Go.Proofs.YtnegdmhmhdojbaaDoor
