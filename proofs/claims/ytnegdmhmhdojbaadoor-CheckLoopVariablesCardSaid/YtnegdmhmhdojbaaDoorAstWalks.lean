/-
  AstWalks: several texts in one (AstVisit, AstWalk).
-/
import Derived.Test.YtnegdmhmhdojbaaDoorAstClone
import Derived.Test.YtnegdmhmhdojbaaDoorRangeLaws
import Derived.Test.YtnegdmhmhdojbaaDoorPath
import Derived.RangeFuncCalls
import Derived.OwnWalkIn
import Derived.TacticsInMore
import Derived.LoopNIn
import Derived.LoopIn
import Derived.Stop.RegionWithIn
import Derived.Sort.CutIn
import Derived.Outline
import Derived.Shelf.SlicesQ.Load
import Derived.Laws.EntriesVeiled
/-
  Contract: the recursive function inside of Walk (package ast): every node once, in pre-order, with its path.
-/
namespace Go.Proofs.YtnegdmhmhdojbaaDoor
set_option linter.unusedVariables false
set_option linter.unusedSimpArgs false
open Go.RowKit
set_option maxRecDepth 100000
attribute [local go_sem] Oper.semAt_some

def VisitOk (J : (Nat → Prop) → List (List Int × Tree) → World → Prop) (Jx : List (List Int × Tree) → World → Prop) (O : Nat → Prop) (pre its : List (List Int × Tree)) (W : World) (e : Ending) (W' : World) : Prop :=
  ∃ b : Bool, e = .returned (.bool b) ∧ Keep O W W' ∧ (b = true → Own J O W.heap.size (pre ++ its) W') ∧ (b = false → ∃ q, q <+: its ∧ Jx (pre ++ q) W')

set_option maxHeartbeats 4000000 in
theorem visit_any (xs : List (List Int × Tree)) (l N0 : Nat) (J : (Nat → Prop) → List (List Int × Tree) → World → Prop) (Jx : List (List Int × Tree) → World → Prop)
    (hJ : ∀ B pre A C, J B pre A → Below A.heap.size A C → J B pre C)
    (hY : ∀ m B pre x args A, J B pre A → (∀ k, B k → k < A.heap.size) → pre ++ [x] <+: xs → N0 ≤ A.heap.size → WalkE B x args A → YieldAt Fence.wide m Tryd.prog l args A (YieldOk J Jx B pre x A)) :
    ∀ (t : Tree) (n : Nat) (p : List Int) (pre : List (List Int × Tree)) (W : World) (v : Value) (a : Option Addr) (c b1 b2 : Nat) (O : Nat → Prop), (∀ k, O k → k < W.heap.size) → t.size ≤ 1000000 → p.length + t.depth ≤ 10000 → pre ++ t.items p <+: xs → N0 ≤ W.heap.size →
      RepIn (fun k => ¬ O k) W t a → PathIn (fun k => ¬ O k) W v p → ¬ O b1 → ¬ O b2 → W.cell? ⟨b1, 0, none⟩ = some (.func (.yield l) #[] #[]) →
      W.cell? ⟨b2, 0, none⟩ = some (.func (.func 73) #[] #[.pointer (some ⟨b1, 0, none⟩), .pointer (some ⟨b2, 0, none⟩)]) → J O pre W →
      CallsIn Fence.wide n Tryd.prog 73 #[t.val a c, v, .pointer (some ⟨b1, 0, none⟩), .pointer (some ⟨b2, 0, none⟩)] W (VisitOk J Jx O pre (t.items p) W) := by
  have HJ := Lib.hid hJ
  have HY := Lib.hid hY
  clear hJ hY
  intro t
  induction t using Tree.ind with
  | h t ih =>
    intro n p pre W v a c b1 b2 O hO hs hd hpx hN hr hp ho1 ho2 hc1 hc2 hj
    have IH := Lib.hid ih
    have HO := Lib.hid hO
    clear ih hO
    have HR := Lib.hid hr
    have HP := Lib.hid hp
    have HJ0 := Lib.hid hj
    clear hr hp hj
    refine callsIn_of_wp Tryd.func73 rfl trivial ?_ rfl
    simp only [Tryd.ntmps73, List.size_toArray, List.length_cons, List.length_nil, Nat.reduceAdd, Nat.reduceSub, Array.replicate_succ, Array.replicate_zero, List.push_toArray, List.append_toArray, List.nil_append, List.cons_append]
    have hb1 : b1 < W.heap.size := World.block_lt_of_cell? W _ hc1
    have hb2 : b2 < W.heap.size := World.block_lt_of_cell? W _ hc2
    have hdd : ∀ k : Nat, (Fence.wide.depth.isSome = true → 1 ≤ k) := fun k h => by cases h
    have hpl : p.length ≤ 1000000 := by omega
    have HB0 : Hid (Below W.heap.size W (W.alloc (.cells #[.int .u8 t.kind, .int .i64 t.num, .string t.name, .slice a t.len c] 43)).drew) := ((Below.refl _ W).alloc (Nat.le_refl _) _).drew
    have HP1 := Lib.hid (HP.out.below HB0.out)
    have HR1 := Lib.hid (HR.out.rep.below HB0.out)
    have HTS : Hid (t.size ≤ 1000000) := hs
    have HPX := Lib.hid hpx
    have HPX1 : Hid (pre ++ [(p, t)] <+: xs) := by
      refine List.IsPrefix.trans ?_ HPX.out
      rw [t.items_eq p]
      exact ⟨_, by rw [List.append_assoc]; rfl⟩
    clear hpx
    have HNO : Hid (∀ k, W.heap.size ≤ k → ¬ O k) := fun k hk ho => by have := HO.out k ho; omega
    gi_wp2
    gi_cut [15] from 9 (fun s w' => ∃ b : Bool, s = .bool b ∧ Keep O W w' ∧ W.heap.size + 1 ≤ w'.heap.size ∧ w'.cell? ⟨W.heap.size, 3, none⟩ = some (.slice a t.len c) ∧ (b = false → Own J O W.heap.size (pre ++ [(p, t)]) w') ∧ (b = true → Jx (pre ++ [(p, t)]) w'))
    case first =>
      gi_region_with (first
        | (refine ⟨trivial, hdd _, ?_⟩; gi_at_call 63; refine (callsIn_wide.2 (slicesClone_any p _ v HP1.out hpl)).mono ?_; rintro e w1 ⟨v1, rfl, hp1, hB1⟩;
           have HB1 := Lib.hid (HB0.out.trans (hB1.mono (by simp)));
           have y1 : w1.cell? ⟨b1, 0, none⟩ = some (.func (.yield l) #[] #[]) := (HB1.out.cell (p := ⟨b1, 0, none⟩) hb1).trans hc1;
           have n0 : w1.cell? ⟨W.heap.size, 0, none⟩ = some (.int .u8 t.kind) := (hB1.cell (p := ⟨W.heap.size, 0, none⟩) (by simp)).trans (by simp);
           have n1 : w1.cell? ⟨W.heap.size, 1, none⟩ = some (.int .i64 t.num) := (hB1.cell (p := ⟨W.heap.size, 1, none⟩) (by simp)).trans (by simp);
           have n2 : w1.cell? ⟨W.heap.size, 2, none⟩ = some (.string t.name) := (hB1.cell (p := ⟨W.heap.size, 2, none⟩) (by simp)).trans (by simp);
           have n3 : w1.cell? ⟨W.heap.size, 3, none⟩ = some (.slice a t.len c) := (hB1.cell (p := ⟨W.heap.size, 3, none⟩) (by simp)).trans (by simp);
           have hz1 : W.heap.size + 1 ≤ w1.heap.size := (by have := hB1.size; simpa using this);
           have HPV := Lib.hid hp1; have HBV := Lib.hid hB1; clear hp1 hB1)
        | (refine ⟨trivial, hdd _, ?_⟩; gi_at_call 41; refine (callsIn_wide.2 (clone_any t _ a c (HR.out.rep.below HB1.out) HTS.out)).mono ?_; rintro e w2 ⟨a2, c2, rfl, hcp, hB2⟩;
           have HB2 := Lib.hid (HB1.out.trans (hB2.mono HB1.out.size));
           have y2 : w2.cell? ⟨b1, 0, none⟩ = some (.func (.yield l) #[] #[]) := (HB2.out.cell (p := ⟨b1, 0, none⟩) hb1).trans hc1;
           have m3 : w2.cell? ⟨W.heap.size, 3, none⟩ = some (.slice a t.len c) := (hB2.cell (p := ⟨W.heap.size, 3, none⟩) (by show W.heap.size < _; omega)).trans n3;
           have hz2 : W.heap.size + 1 ≤ w2.heap.size := Nat.le_trans hz1 hB2.size;
           have hE : WalkE O (p, t) #[v1, t.val a2 c2] w2 := ⟨v1, a2, c2, rfl, HPV.out.move hB2.size (fun k _ hk => hB2.block k hk) (fun k hk _ => HNO.out k (by simp at hk; omega)), hcp.mono (fun k hk => HNO.out k (by omega))⟩;
           have HYY := HY.out (n - 1) O pre (p, t) #[v1, t.val a2 c2] w2 (HJ.out _ _ _ _ HJ0.out HB2.out) (fun k hk => Nat.lt_of_lt_of_le (HO.out k hk) HB2.out.size) HPX1.out (by omega) hE;
           obtain ⟨fn, tmps, assign, body, hy, hRR⟩ := HYY;
           clear hE hcp hB2)
        | (refine ⟨hdd _, ?_⟩; refine hRR.mono ?_; rintro e w3 ⟨b, rfl, hk3, hj3, hx3⟩; have HK3 := Lib.hid hk3; have HJ3 := Lib.hid hj3; have HX3 := Lib.hid hx3; clear hk3 hj3 hx3)
        )
      all_goals
        have hK : Keep O W w3 := (Keep.ofBelow HB2.out).trans HK3.out
        have hzz : W.heap.size + 1 ≤ w3.heap.size := Nat.le_trans hz2 HK3.out.size
        have hbx : w3.cell? ⟨W.heap.size, 3, none⟩ = some (.slice a t.len c) := (World.cell?_of_block (a := ⟨W.heap.size, 3, none⟩) (HK3.out.block W.heap.size (HNO.out _ (Nat.le_refl _)) (by omega))).trans m3
        gi_wp2
        gi_meet
        case rel => exact ⟨!b, rfl, hK, hzz, hbx, fun h => (HJ3.out (by simpa using h)).trans (fun k hk => .inl hk) HB2.out.size, fun h => HX3.out (by simpa using h)⟩
    obtain ⟨b, rfl, hK1, hz1, hbx, hj1, hx1⟩ := hcut
    have HX1 := Lib.hid hx1
    have HJ1 := Lib.hid hj1
    have HK1 := Lib.hid hK1
    have HIT := Lib.hid (t.items_eq p)
    clear hx1 hj1 hK1
    cases b with
    | true =>
      gi_wp2
      go_ret
      refine ⟨false, rfl, HK1.out, fun h => (by cases h), fun _ => ⟨[(p, t)], ?_, HX1.out (by trivial)⟩⟩
      rw [HIT.out]; exact ⟨_, rfl⟩
    | false =>
    have HJ2 := Lib.hid (HJ1.out rfl)
    have hln := HR.out.fits.len
    gi_wp2
    gi_loopw [19] (fun i wr => ∃ j : Nat, j ≤ t.len ∧ i = .int .i64 j ∧ Keep O W wr ∧ W.heap.size + 1 ≤ wr.heap.size ∧ Own J O W.heap.size (pre ++ (p, t) :: concatTo (fun i => (t.kid i).items (p ++ [(i : Int)])) j) wr) (fun i _ => t.len - (intOf i).toNat)
    case atStart => exact ⟨0, Nat.zero_le _, rfl, HK1.out, hz1, HJ2.out⟩
    case round =>
      obtain ⟨j, hj, rfl, hKr, hzr, hjr⟩ := hrel
      have HKR := Lib.hid hKr
      have HJR := Lib.hid hjr
      clear hKr hjr
      by_cases hlt : j < t.len
      · rcases HR.out.kids with h0 | ⟨b, off, rfl, hSb, hc⟩
        · omega
        obtain ⟨ai, ci, hnode, hri⟩ := hc j hlt
        have hbW := hnode.lt
        obtain ⟨f0, f1, f2, f3⟩ := hnode.same (HKR.out.block b hSb hbW)
        have hk2 : wr.cell? ⟨b2, 0, none⟩ = some (.func (.func 73) #[] #[.pointer (some ⟨b1, 0, none⟩), .pointer (some ⟨b2, 0, none⟩)]) := (World.cell?_of_block (a := ⟨b2, 0, none⟩) (HKR.out.block b2 ho2 hb2)).trans hc2
        have hk1 : wr.cell? ⟨b1, 0, none⟩ = some (.func (.yield l) #[] #[]) := (World.cell?_of_block (a := ⟨b1, 0, none⟩) (HKR.out.block b1 ho1 hb1)).trans hc1
        have hb2r : b2 < wr.heap.size := by omega
        have hb2r1 : b2 < wr.heap.size + 1 := by omega
        have hb2r2 : b2 < wr.heap.size + 1 + 1 := by omega
        have hwr2 : wr.heap.size < wr.heap.size + 1 + 1 := by omega
        obtain ⟨Bq, hsq, hlq, hjq⟩ := HJR.out
        have HSQ := Lib.hid hsq
        have HLQ := Lib.hid hlq
        have HJQ := Lib.hid hjq
        have HNQ : Hid (∀ k, ¬ O k → k < W.heap.size → ¬ Bq k) := fun k h1 h2 h3 => by
          rcases hsq k h3 with h | h
          · exact h1 h
          · omega
        clear hsq hlq hjq
        have HRI : Hid (RepIn (fun k => ¬ Bq k) wr (t.kid j) ai) := hri.move (fun k hk hl => HKR.out.block k hk hl) (fun k h hl => HNQ.out k h hl)
        have HPR : Hid (PathIn (fun k => ¬ Bq k) wr v p) := HP.out.move HKR.out.size (fun k hk hl => HKR.out.block k hk hl) (fun k h hl => HNQ.out k h hl)
        obtain ⟨pb, po, pc, rfl, hSp, hpc, hpb, hpk⟩ := HPR.out
        clear hc hnode hri
        have HV : Hid (∀ m w7 v7, Below wr.heap.size wr w7 → PathIn (fun k => wr.heap.size ≤ k) w7 v7 (p ++ [(j : Int)]) → CallsIn Fence.wide m Tryd.prog 73 #[(t.kid j).val ai ci, v7, .pointer (some ⟨b1, 0, none⟩), .pointer (some ⟨b2, 0, none⟩)] w7 (VisitOk J Jx Bq (pre ++ (p, t) :: concatTo (fun i => (t.kid i).items (p ++ [(i : Int)])) j) ((t.kid j).items (p ++ [(j : Int)])) w7)) := by
          intro m w7 v7 hB7 hp7
          have hdep : p.length + 1 + (t.kid j).depth ≤ 10000 := by have := Tree.depth_kid hlt; omega
          exact IH.out j hlt m (p ++ [(j : Int)]) _ w7 _ ai ci b1 b2 Bq (fun k hk => Nat.lt_of_lt_of_le (HLQ.out k hk) hB7.size) (by have := Tree.size_kid hlt; omega) (by simpa using hdep) (items_step t p pre hlt HPX.out) (by have := hB7.size; omega) (HRI.out.move (fun k _ hl => hB7.block k hl) (fun _ h _ => h)) (hp7.move (Nat.le_refl _) (fun _ _ _ => rfl) (fun k hk _ => fun hb => by have := HLQ.out k hb; omega)) (HNQ.out b1 ho1 hb1) (HNQ.out b2 ho2 hb2)
            ((hB7.cell (p := ⟨b1, 0, none⟩) (by show b1 < _; omega)).trans hk1) ((hB7.cell (p := ⟨b2, 0, none⟩) (by show b2 < _; omega)).trans hk2) (HJ.out _ _ _ _ HJQ.out hB7)
        have HBX : Hid (∀ Z : Array Value, Below wr.heap.size wr ((((wr.alloc (.cells #[.int .u8 (t.kid j).kind, .int .i64 (t.kid j).num, .string (t.kid j).name, .slice ai (t.kid j).len ci] 43)).alloc (.cells #[.int .i64 (j : Int)] 3)).alloc (.cells ((ints p ++ [Value.int .i64 (j : Int)]).toArray ++ Z) 3)).drew.drew)) := fun Z => ((((Below.refl wr.heap.size wr).alloc (Nat.le_refl _) _).alloc (by simp) _).alloc (by simp; omega) _).drew.drew
        have HVX : Hid (∀ (m CAP : Nat) (Z : Array Value), p.length + 1 ≤ CAP → CallsIn Fence.wide m Tryd.prog 73 #[(t.kid j).val ai ci, .slice (some ⟨wr.heap.size + 1 + 1, 0, none⟩) (p.length + 1) CAP, .pointer (some ⟨b1, 0, none⟩), .pointer (some ⟨b2, 0, none⟩)] ((((wr.alloc (.cells #[.int .u8 (t.kid j).kind, .int .i64 (t.kid j).num, .string (t.kid j).name, .slice ai (t.kid j).len ci] 43)).alloc (.cells #[.int .i64 (j : Int)] 3)).alloc (.cells ((ints p ++ [Value.int .i64 (j : Int)]).toArray ++ Z) 3)).drew.drew) (VisitOk J Jx Bq (pre ++ (p, t) :: concatTo (fun i => (t.kid i).items (p ++ [(i : Int)])) j) ((t.kid j).items (p ++ [(j : Int)])) ((((wr.alloc (.cells #[.int .u8 (t.kid j).kind, .int .i64 (t.kid j).num, .string (t.kid j).name, .slice ai (t.kid j).len ci] 43)).alloc (.cells #[.int .i64 (j : Int)] 3)).alloc (.cells ((ints p ++ [Value.int .i64 (j : Int)]).toArray ++ Z) 3)).drew.drew))) := by
          intro m CAP Z hCAP
          refine HV.out m _ _ (HBX.out Z) ⟨wr.heap.size + 1 + 1, 0, CAP, by simp, by omega, by simpa using hCAP, by simp, fun k hk => ?_⟩
          have e := World.cell?_alloc_new ((wr.alloc (.cells #[.int .u8 (t.kid j).kind, .int .i64 (t.kid j).num, .string (t.kid j).name, .slice ai (t.kid j).len ci] 43)).alloc (.cells #[.int .i64 (j : Int)] 3)) ((ints p ++ [Value.int .i64 (j : Int)]).toArray ++ Z) 3 k
          rw [World.size_alloc, World.size_alloc] at e
          rw [Nat.zero_add]
          refine Eq.trans e ?_
          have hk' : k < (ints p ++ [Value.int .i64 (j : Int)]).length := by simpa [ints] using hk
          rw [Array.getElem?_append_left (by simpa using hk'), List.getElem?_toArray]
          have hh : ints p ++ [Value.int .i64 (j : Int)] = ints (p ++ [(j : Int)]) := by simp [ints]
          rw [hh]
          exact ints_at _ k hk
        have hload : Sem.run Tryd.prog (loadCellsFrom ⟨pb, po, none⟩ 0 p.length #[]) ((wr.alloc (.cells #[.int .u8 (t.kid j).kind, .int .i64 (t.kid j).num, .string (t.kid j).name, .slice ai (t.kid j).len ci] 43)).alloc (.cells #[.int .i64 (j : Int)] 3)).drew.drew = .ok (ints p).toArray ((wr.alloc (.cells #[.int .u8 (t.kid j).kind, .int .i64 (t.kid j).num, .string (t.kid j).name, .slice ai (t.kid j).len ci] 43)).alloc (.cells #[.int .i64 (j : Int)] 3)).drew.drew := by
          refine run_loadCellsFrom_list Tryd.prog _ ⟨pb, po, none⟩ (ints p) p.length (ints_len p) (fun k u hu => ?_)
          have hk : k < p.length := by have := (List.getElem?_eq_some_iff.1 hu).1; rwa [ints_len] at this
          rw [ints_at p k hk] at hu; cases hu
          rw [show (⟨pb, po, none⟩ : Addr).add k = ⟨pb, po + k, none⟩ by simp [Addr.add]]
          exact (((((Below.refl wr.heap.size wr).alloc (Nat.le_refl _) _).alloc (by simp) _).drew.drew).cell (p := ⟨pb, po + k, none⟩) hpb).trans (hpk k hk)
        clear hpk
        have hby : Tryd.t3.bytes = 8 := by kernel_rfl
        have hn1 : ¬ (p.length + 1 ≤ p.length) := by omega
        have hn2 : ¬ ((9223372036854775807 : Int) < (p.length : Int) + 1 ∧ Tryd.t3.bytes = 0) := by rw [hby]; omega
        have hn3 : ¬ (281474976710656 < Builtin.nextslicecap (p.length + 1) p.length * Tryd.t3.bytes) := by
          have := growslice_fits (need := p.length + 1) (old := p.length) (bytes := Tryd.t3.bytes) (by omega) (by rw [hby]; omega)
          omega
        clear hby
        gi_wp2
        gi_cut [32] from 20 (fun s w' => ∃ b : Bool, s = .bool b ∧ Keep O W w' ∧ W.heap.size + 1 ≤ w'.heap.size ∧ (b = false → Own J O W.heap.size (pre ++ (p, t) :: concatTo (fun i => (t.kid i).items (p ++ [(i : Int)])) (j + 1)) w') ∧ (b = true → ∃ q, q <+: t.items p ∧ Jx (pre ++ q) w'))
        case first =>
          gi_region_with (first
            | (refine ⟨trivial, hdd _, ?_⟩; gi_at_call 74; refine (callsIn_wide.2 (slicesClip_any pb po p.length pc _ hpc)).mono ?_; rintro e w1 ⟨rfl, rfl⟩)
            | (refine ⟨trivial, hdd _, ?_⟩; gi_at_call 73; refine (HVX.out _ _ _ (by simp [Question.cut])).mono ?_; rintro e w8 ⟨b, rfl, hk8, hj8, hx8⟩; have HK8 := Lib.hid hk8; have HJ8 := Lib.hid hj8; have HX8 := Lib.hid hx8; clear hk8 hj8 hx8)
            )
          all_goals
            have hK8 : Keep O W w8 := (HKR.out.trans (Keep.ofBelow (HBX.out _))).dyn HK8.out HSQ.out
            have hz8 : W.heap.size + 1 ≤ w8.heap.size := Nat.le_trans hzr (Nat.le_trans (HBX.out _).size HK8.out.size)
            gi_wp2
            gi_meet
            case rel => exact ⟨!b, rfl, hK8, hz8, fun h => (by have := (HJ8.out (by simpa using h)).trans HSQ.out (Nat.le_trans HKR.out.size (HBX.out _).size); rw [concatTo_succ]; simpa [List.append_assoc] using this), fun h => (by
              obtain ⟨q, hq, hx⟩ := HX8.out (by simpa using h)
              exact ⟨_, items_pre t p hlt hq, by simpa [List.append_assoc] using hx⟩)⟩
        obtain ⟨b, rfl, hK9, hz9, hj9, hx9⟩ := hcut
        have HJ9 := Lib.hid hj9
        have HX9 := Lib.hid hx9
        have HK9 := Lib.hid hK9
        clear hj9 hx9 hK9
        cases b with
        | true =>
          gi_wp2
          go_ret
          exact ⟨false, rfl, HK9.out, fun h => (by cases h), fun _ => HX9.out (by trivial)⟩
        | false =>
          gi_wp2
          go_roundw
          case rel => exact ⟨j + 1, by omega, by go_num, HK9.out, hz9, HJ9.out (by trivial)⟩
          case measure => simp [intOf]; omega
      · obtain rfl : j = t.len := by omega
        gi_wp2
        go_ret
        exact ⟨true, rfl, HKR.out, fun _ => (by rw [HIT.out]; exact HJR.out), fun h => (by cases h)⟩
end Go.Proofs.YtnegdmhmhdojbaaDoor

/-
  Contract: Walk's iterator hands over every node once, in pre-order, with its path (package ast).
-/
namespace Go.Proofs.YtnegdmhmhdojbaaDoor
set_option linter.unusedVariables false
set_option linter.unusedSimpArgs false
open Go.RowKit
set_option maxRecDepth 100000
attribute [local go_sem] Oper.semAt_some

set_option maxHeartbeats 1000000 in
theorem walk1_iter (t : Tree) (S : Nat → Prop) (w : World) (br : Nat) (a : Option Addr) (c : Nat) (hs : t.size ≤ 1000000) (hd : t.depth ≤ 10000) (_hSb : S br) (hn : NodeAt w br 0 t a c) (hr : RepIn S w t a) :
    IterOk Tryd.prog 72 #[.pointer (some ⟨br, 0, none⟩)] S WalkE (t.items []) w := by
  intro n l J Jx O W hB hO1 hO2 hJ hY hj0
  have HO1 := Lib.hid hO1
  have HO2 := Lib.hid hO2
  have HJ := Lib.hid hJ
  have HY := Lib.hid hY
  have HJ0 := Lib.hid hj0
  have hbr : br < W.heap.size := Nat.lt_of_lt_of_le hn.lt hB.size
  obtain ⟨f0, f1, f2, f3⟩ := hn.below hB hn.lt
  have HR : Hid (RepIn (fun k => ¬ O k) W t a) := hr.move (fun k _ hk => hB.block k hk) (fun k hk _ ho => HO1.out k ho hk)
  have HNO : Hid (∀ k, W.heap.size ≤ k → ¬ O k) := fun k hk ho => by have := HO2.out k ho; omega
  clear hO1 hO2 hJ hY hj0 hr hn hB
  have hdd : ∀ k : Nat, (Fence.wide.depth.isSome = true → 1 ≤ k) := fun k h => by cases h
  show CallsIn Fence.wide n Tryd.prog 72 #[.func (.yield l) #[] #[], .pointer (some ⟨br, 0, none⟩)] W _
  refine callsIn_of_wp Tryd.func72 rfl trivial ?_ rfl
  simp only [Tryd.ntmps72, List.size_toArray, List.length_cons, List.length_nil, Nat.reduceAdd, Nat.reduceSub, Array.replicate_succ, Array.replicate_zero, List.push_toArray, List.append_toArray, List.nil_append, List.cons_append]
  have HB3 : Hid (Below W.heap.size W (((W.alloc (.cells #[.func (.yield l) #[] #[]] 99)).alloc (.cells #[.func (.func 73) #[] #[.pointer (some ⟨W.heap.size, 0, none⟩), .pointer (some ⟨W.heap.size + 1, 0, none⟩)]] 100)).alloc (.cells #[] 3))) := (((Below.refl _ W).alloc (Nat.le_refl _) _).alloc (by simp) _).alloc (by simp; omega) _
  have HV : Hid (∀ m, CallsIn Fence.wide m Tryd.prog 73 #[t.val a c, .slice (some ⟨W.heap.size + 1 + 1, 0, none⟩) 0 0, .pointer (some ⟨W.heap.size, 0, none⟩), .pointer (some ⟨W.heap.size + 1, 0, none⟩)] (((W.alloc (.cells #[.func (.yield l) #[] #[]] 99)).alloc (.cells #[.func (.func 73) #[] #[.pointer (some ⟨W.heap.size, 0, none⟩), .pointer (some ⟨W.heap.size + 1, 0, none⟩)]] 100)).alloc (.cells #[] 3)) (VisitOk J Jx O [] (t.items []) (((W.alloc (.cells #[.func (.yield l) #[] #[]] 99)).alloc (.cells #[.func (.func 73) #[] #[.pointer (some ⟨W.heap.size, 0, none⟩), .pointer (some ⟨W.heap.size + 1, 0, none⟩)]] 100)).alloc (.cells #[] 3)))) := by
    intro m
    refine visit_any (t.items []) l W.heap.size J Jx HJ.out (fun m B pre x args A h0 h1 h2 h3 h4 => HY.out m B pre x args A h0 h1 h2 h3 h4) t m [] [] (((W.alloc (.cells #[.func (.yield l) #[] #[]] 99)).alloc (.cells #[.func (.func 73) #[] #[.pointer (some ⟨W.heap.size, 0, none⟩), .pointer (some ⟨W.heap.size + 1, 0, none⟩)]] 100)).alloc (.cells #[] 3)) _ a c W.heap.size (W.heap.size + 1) O (fun k hk => Nat.lt_of_lt_of_le (HO2.out k hk) HB3.out.size) hs (by simpa using hd) List.prefix_rfl HB3.out.size
      (HR.out.move (fun k _ hk => HB3.out.block k hk) (fun _ h _ => h)) ⟨W.heap.size + 1 + 1, 0, 0, rfl, HNO.out _ (by omega), Nat.le_refl _, by simp, fun i hi => by simp at hi⟩
      (HNO.out _ (Nat.le_refl _)) (HNO.out _ (by omega)) ?_ ?_ (HJ.out _ _ _ _ HJ0.out HB3.out)
    · rw [World.cell?_alloc_lt _ _ _ (by simp; omega), World.cell?_alloc_lt _ _ _ (by simp)]
      exact World.cell?_alloc_new W _ _ 0
    · rw [World.cell?_alloc_lt _ _ _ (by simp)]
      have := World.cell?_alloc_new (W.alloc (.cells #[.func (.yield l) #[] #[]] 99)) #[.func (.func 73) #[] #[.pointer (some ⟨W.heap.size, 0, none⟩), .pointer (some ⟨W.heap.size + 1, 0, none⟩)]] 100 0
      rw [World.size_alloc] at this
      exact this
  gi_wp2_with (first | (refine ⟨trivial, hdd _, ?_⟩; gi_at_call 73; refine (HV.out _).mono ?_; rintro e w8 ⟨b, rfl, hk8, hj8, hx8⟩; have HK8 := Lib.hid hk8; have HJ8 := Lib.hid hj8; have HX8 := Lib.hid hx8; clear hk8 hj8 hx8))
  go_end0
  refine ⟨⟨_, rfl⟩, ?_⟩
  cases b with
  | true =>
    obtain ⟨B, _, _, h⟩ := HJ8.out (by trivial)
    exact .inl ⟨B, h⟩
  | false => exact .inr (HX8.out (by trivial))

theorem walk_any (t : Tree) (w : World) (a : Option Addr) (c : Nat) (hr : Rep w t a) (hs : t.size ≤ 1000000) (hd : t.depth ≤ 10000) :
    Calls Tryd.prog 58 #[t.val a c] w (WalkOk Tryd.prog 72 t w) := by
  have hB0 : Below w.heap.size w (w.alloc (.cells #[.int .u8 t.kind, .int .i64 t.num, .string t.name, .slice a t.len c] 43)) := (Below.refl _ _).alloc (Nat.le_refl _) _
  have HR := Lib.hid (hr.below hB0)
  have HS : Hid (t.size ≤ 1000000) := hs
  have HB0 := Lib.hid hB0
  clear hr hB0
  go_enter Tryd.func58, Tryd.ntmps58
  go_wp2_with fail
  refine (clone_any t _ a c HR.out HS.out).mono ?_
  rintro e w2 ⟨a2, c2, rfl, hcp, hB2⟩
  have HCP := Lib.hid hcp
  have HB2 := Lib.hid (HB0.out.trans (hB2.mono HB0.out.size))
  have hz : w.heap.size + 1 ≤ w2.heap.size := by have := hB2.size; simpa using this
  clear hcp hB2
  go_wp2_with fail
  go_ret
  have hBA : Below w2.heap.size w2 (w2.alloc (.cells #[.int .u8 t.kind, .int .i64 t.num, .string t.name, .slice a2 t.len c2] 43)) := (Below.refl _ _).alloc (Nat.le_refl _) _
  refine ⟨w2.heap.size, rfl, HB2.out.trans (hBA.mono HB2.out.size), ?_⟩
  refine walk1_iter t _ _ w2.heap.size a2 c2 hs hd ⟨by omega, by simp⟩ ⟨?_, ?_, ?_, ?_⟩ ?_
  · exact World.cell?_alloc_new w2 _ _ 0
  · exact World.cell?_alloc_new w2 _ _ 1
  · exact World.cell?_alloc_new w2 _ _ 2
  · exact World.cell?_alloc_new w2 _ _ 3
  · exact HCP.out.move (fun k _ hk => hBA.block k hk) (fun k hk hl => ⟨by simp at hk; omega, by simp; omega⟩)
end Go.Proofs.YtnegdmhmhdojbaaDoor
