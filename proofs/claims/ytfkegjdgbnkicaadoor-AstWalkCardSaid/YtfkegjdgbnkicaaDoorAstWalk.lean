/-
  Contract: Walk's iterator hands over every node once, in pre-order, with its path (package ast).
-/
import Derived.Test.YtfkegjdgbnkicaaDoorAstVisit
import Derived.Laws.EntriesVeiled
namespace Go.Proofs.YtfkegjdgbnkicaaDoor
open Go.RowKit
set_option maxRecDepth 100000
attribute [local go_sem] Oper.semAt_some

set_option maxHeartbeats 1000000 in
theorem walk1_iter (t : Tree) (S : Nat → Prop) (w : World) (br : Nat) (a : Option Addr) (c : Nat) (hs : t.size ≤ 1000000) (hd : t.depth ≤ 10000) (_hSb : S br) (hn : NodeAt w br 0 t a c) (hr : RepIn S w t a) :
    IterOk Tryd.prog 44 #[.pointer (some ⟨br, 0, none⟩)] S WalkE (t.items []) w := by
  intro n l J Jx O W hB hO1 hO2 hJ hY hj0
  have HO1 := Lib.hid hO1
  have HO2 := Lib.hid hO2
  have HJ := Lib.hid hJ
  have HY := Lib.hid hY
  have HJ0 := Lib.hid hj0
  have hbr : br < W.heap.size := Nat.lt_of_lt_of_le hn.lt hB.size
  obtain ⟨f0, f1, f2, f3⟩ := hn.below hB hn.lt
  have HR : Hid (RepIn (fun k => ¬ O k) W t a) := hr.move (fun k _ hk => hB.block k hk) (fun k hk _ ho => HO1.out k ho hk)
  have HNO : Hid (∀ k, W.heap.size ≤ k → ¬ O k) := fun k hk ho => by have := HO2.out k ho; omega
  clear hO1 hO2 hJ hY hj0 hr hn hB
  have hdd : ∀ k : Nat, (Fence.wide.depth.isSome = true → 1 ≤ k) := fun k h => by cases h
  show CallsIn Fence.wide n Tryd.prog 44 #[.func (.yield l) #[] #[], .pointer (some ⟨br, 0, none⟩)] W _
  refine callsIn_of_wp Tryd.func44 rfl trivial ?_ rfl
  simp only [Tryd.ntmps44, List.size_toArray, List.length_cons, List.length_nil, Nat.reduceAdd, Nat.reduceSub, Array.replicate_succ, Array.replicate_zero, List.push_toArray, List.append_toArray, List.nil_append, List.cons_append]
  have HB3 : Hid (Below W.heap.size W (((W.alloc (.cells #[.func (.yield l) #[] #[]] 55)).alloc (.cells #[.func (.func 45) #[] #[.pointer (some ⟨W.heap.size, 0, none⟩), .pointer (some ⟨W.heap.size + 1, 0, none⟩)]] 42)).alloc (.cells #[] 3))) := (((Below.refl _ W).alloc (Nat.le_refl _) _).alloc (by simp) _).alloc (by simp; omega) _
  have HV : Hid (∀ m, CallsIn Fence.wide m Tryd.prog 45 #[t.val a c, .slice (some ⟨W.heap.size + 1 + 1, 0, none⟩) 0 0, .pointer (some ⟨W.heap.size, 0, none⟩), .pointer (some ⟨W.heap.size + 1, 0, none⟩)] (((W.alloc (.cells #[.func (.yield l) #[] #[]] 55)).alloc (.cells #[.func (.func 45) #[] #[.pointer (some ⟨W.heap.size, 0, none⟩), .pointer (some ⟨W.heap.size + 1, 0, none⟩)]] 42)).alloc (.cells #[] 3)) (VisitOk J Jx O [] (t.items []) (((W.alloc (.cells #[.func (.yield l) #[] #[]] 55)).alloc (.cells #[.func (.func 45) #[] #[.pointer (some ⟨W.heap.size, 0, none⟩), .pointer (some ⟨W.heap.size + 1, 0, none⟩)]] 42)).alloc (.cells #[] 3)))) := by
    intro m
    refine visit_any (t.items []) l W.heap.size J Jx HJ.out (fun m B pre x args A h0 h1 h2 h3 h4 => HY.out m B pre x args A h0 h1 h2 h3 h4) t m [] [] (((W.alloc (.cells #[.func (.yield l) #[] #[]] 55)).alloc (.cells #[.func (.func 45) #[] #[.pointer (some ⟨W.heap.size, 0, none⟩), .pointer (some ⟨W.heap.size + 1, 0, none⟩)]] 42)).alloc (.cells #[] 3)) _ a c W.heap.size (W.heap.size + 1) O (fun k hk => Nat.lt_of_lt_of_le (HO2.out k hk) HB3.out.size) hs (by simpa using hd) List.prefix_rfl HB3.out.size
      (HR.out.move (fun k _ hk => HB3.out.block k hk) (fun _ h _ => h)) ⟨W.heap.size + 1 + 1, 0, 0, rfl, HNO.out _ (by omega), Nat.le_refl _, by simp, fun i hi => by simp at hi⟩
      (HNO.out _ (Nat.le_refl _)) (HNO.out _ (by omega)) ?_ ?_ (HJ.out _ _ _ _ HJ0.out HB3.out)
    · rw [World.cell?_alloc_lt _ _ _ (by simp; omega), World.cell?_alloc_lt _ _ _ (by simp)]
      exact World.cell?_alloc_new W _ _ 0
    · rw [World.cell?_alloc_lt _ _ _ (by simp)]
      have := World.cell?_alloc_new (W.alloc (.cells #[.func (.yield l) #[] #[]] 55)) #[.func (.func 45) #[] #[.pointer (some ⟨W.heap.size, 0, none⟩), .pointer (some ⟨W.heap.size + 1, 0, none⟩)]] 42 0
      rw [World.size_alloc] at this
      exact this
  gi_wp2_with (first | (refine ⟨trivial, hdd _, ?_⟩; gi_at_call 45; refine (HV.out _).mono ?_; rintro e w8 ⟨b, rfl, hk8, hj8, hx8⟩; have HK8 := Lib.hid hk8; have HJ8 := Lib.hid hj8; have HX8 := Lib.hid hx8; clear hk8 hj8 hx8))
  go_end0
  refine ⟨⟨_, rfl⟩, ?_⟩
  cases b with
  | true =>
    obtain ⟨B, _, _, h⟩ := HJ8.out (by trivial)
    exact .inl ⟨B, h⟩
  | false => exact .inr (HX8.out (by trivial))

theorem walk_any (t : Tree) (w : World) (a : Option Addr) (c : Nat) (hr : Rep w t a) (hs : t.size ≤ 1000000) (hd : t.depth ≤ 10000) :
    Calls Tryd.prog 27 #[t.val a c] w (WalkOk Tryd.prog 44 t w) := by
  have hB0 : Below w.heap.size w (w.alloc (.cells #[.int .u8 t.kind, .int .i64 t.num, .string t.name, .slice a t.len c] 24)) := (Below.refl _ _).alloc (Nat.le_refl _) _
  have HR := Lib.hid (hr.below hB0)
  have HS : Hid (t.size ≤ 1000000) := hs
  have HB0 := Lib.hid hB0
  clear hr hB0
  go_enter Tryd.func27, Tryd.ntmps27
  go_wp2_with fail
  refine (clone_any t _ a c HR.out HS.out).mono ?_
  rintro e w2 ⟨a2, c2, rfl, hcp, hB2⟩
  have HCP := Lib.hid hcp
  have HB2 := Lib.hid (HB0.out.trans (hB2.mono HB0.out.size))
  have hz : w.heap.size + 1 ≤ w2.heap.size := by have := hB2.size; simpa using this
  clear hcp hB2
  go_wp2_with fail
  go_ret
  have hBA : Below w2.heap.size w2 (w2.alloc (.cells #[.int .u8 t.kind, .int .i64 t.num, .string t.name, .slice a2 t.len c2] 24)) := (Below.refl _ _).alloc (Nat.le_refl _) _
  refine ⟨w2.heap.size, rfl, HB2.out.trans (hBA.mono HB2.out.size), ?_⟩
  refine walk1_iter t _ _ w2.heap.size a2 c2 hs hd ⟨by omega, by simp⟩ ⟨?_, ?_, ?_, ?_⟩ ?_
  · exact World.cell?_alloc_new w2 _ _ 0
  · exact World.cell?_alloc_new w2 _ _ 1
  · exact World.cell?_alloc_new w2 _ _ 2
  · exact World.cell?_alloc_new w2 _ _ 3
  · exact HCP.out.move (fun k _ hk => hBA.block k hk) (fun k hk hl => ⟨by simp at hk; omega, by simp; omega⟩)
end Go.Proofs.YtfkegjdgbnkicaaDoor
