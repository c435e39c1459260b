/-
  The statement AstClone, walked (package ontimelaw12), over the contract of awake.
-/
import Derived.Test.YtfkegjdgbnkicaaDoorLawKinds
import Derived.Test.YtfkegjdgbnkicaaDoorChange
import Derived.Test.YtfkegjdgbnkicaaDoorAstEqual
import Derived.Test.YtfkegjdgbnkicaaDoorRefEqual
import Derived.Test.YtfkegjdgbnkicaaDoorAstAt
import Derived.Test.YtfkegjdgbnkicaaDoorIsTask
namespace Go.Proofs.YtfkegjdgbnkicaaDoor
open Go.RowKit
set_option maxRecDepth 100000

theorem box_heap {w : World} {o : Obj} {w' : World} (h : Below (w.alloc o).heap.size (w.alloc o) w') : w'.heap[w.heap.size]? = some o :=
  (h.block _ (by simp)).trans (World.alloc_heap_new w _)

set_option maxHeartbeats 4000000 in
theorem astClone_of (HW : AwakeAt) (t : Tree) (w : World) (a : Option Addr) (c : Nat) (ht : Rep w t a) (hn : t.namesLe 140737488351232) (hg : SignsIn w) :
    Calls Tryd.prog 9 #[t.val a c] w fun e w' => e = .returned (.bool true) ∧ Below w.heap.size w w' := by
  have HT := Lib.hid ht
  have HN := Lib.hid hn
  have HG := Lib.hid hg
  have HB0 : Hid (Below (w.heap.size + 1) (w.alloc (boxObj t a c)) (w.alloc (boxObj t a c))) := Below.refl _ _
  clear ht hg hn
  go_enter Tryd.func9, Tryd.ntmps9
  go_wp2_with fail
  refine (HW _ (HG.out.below (ofBox HB0.out))).mono ?_
  rintro e w1 ⟨rfl, hB1⟩
  have HB1 := Lib.hid (HB0.out.trans (hB1.mono (by simp)))
  obtain ⟨f0, f1, f2, f3, _⟩ := keep_box hB1 HB0.out
  clear hB1
  go_wp2_with fail
  by_cases hbig : t.big
  · refine (big_yes t _ a c (HT.out.below (ofBox HB1.out)) hbig).mono ?_
    rintro e w2 ⟨rfl, hB2⟩
    have HB2 := Lib.hid (HB1.out.trans (hB2.mono (box_size HB1.out)))
    clear hB2
    go_wp2_with fail
    go_ret
    exact ⟨rfl, ofBox HB2.out⟩
  refine (big_no t _ a c (HT.out.below (ofBox HB1.out)) hbig).mono ?_
  rintro e w2 ⟨rfl, hB2⟩
  have HB2 := Lib.hid (HB1.out.trans (hB2.mono (box_size HB1.out)))
  obtain ⟨g0, g1, g2, g3, _⟩ := keep_box hB2 HB1.out
  have HTS : Hid (t.size ≤ 1000000) := by have := (Tree.small hbig).1; show _ ≤ _; omega
  clear hB2 f0 f1 f2 f3 hbig
  go_wp2_with fail
  refine (refCopy_any t _ a c (HT.out.below (ofBox HB2.out)) HTS.out).mono ?_
  rintro e w3 ⟨a3, c3, rfl, hr3, hB3⟩
  have HBX3 : Hid (Below w3.heap.size w3 (w3.alloc (boxObj t a3 c3))) := (Below.refl _ _).alloc (Nat.le_refl _) _
  have HB3 := Lib.hid ((HB2.out.trans (hB3.mono (box_size HB2.out))).trans (HBX3.out.mono (Nat.le_trans (box_size HB2.out) hB3.size)))
  have HR3 := Lib.hid hr3
  have hz3 : w2.heap.size ≤ w3.heap.size := hB3.size
  have hz2 := box_size HB2.out
  have HB23 := Lib.hid hB3
  clear hB3 hr3 g0 g1 g2 g3
  go_wp2_with fail
  refine (clone_any t _ a3 c3 (HR3.out.rep.below HBX3.out) HTS.out).mono ?_
  rintro e w4 ⟨a4, c4, rfl, hr4, hB4⟩
  have HBX4 : Hid (Below w4.heap.size w4 (w4.alloc (boxObj t a4 c4))) := (Below.refl _ _).alloc (Nat.le_refl _) _
  have HX3 : Hid (w4.heap[w3.heap.size]? = some (boxObj t a3 c3)) := box_heap hB4
  have HB34 : Hid (Below (w3.alloc (boxObj t a3 c3)).heap.size (w3.alloc (boxObj t a3 c3)) (w4.alloc (boxObj t a4 c4))) := hB4.trans (HBX4.out.mono hB4.size)
  have HB4 := Lib.hid (HB3.out.trans (HB34.out.mono (by simp; omega)))
  have HR4 : Hid (RepIn (fun k => w3.heap.size + 1 ≤ k ∧ k < w4.heap.size) w4 t a4) := hr4.move (fun _ _ _ => rfl) (fun k hk hl => ⟨by simpa using hk, hl⟩)
  have hz4 : w3.heap.size + 1 ≤ w4.heap.size := by have := hB4.size; simpa using this
  obtain ⟨⟨m0, m1, m2, m3⟩, _⟩ := blk4 HX3.out
  have hz34 : w3.heap.size < w4.heap.size := by omega
  clear hB4 hr4
  go_wp2_with fail
  have HR34 : Hid (Rep (w4.alloc (boxObj t a4 c4)) t a3) := (HR3.out.rep.below HBX3.out).below HB34.out
  have HR44 : Hid (Rep (w4.alloc (boxObj t a4 c4)) t a4) := HR4.out.rep.below HBX4.out
  refine (equal_any t t _ a4 a3 c4 c3 HR44.out HR34.out).mono ?_
  rintro e w5 ⟨he, hB5⟩
  rw [eqT_self] at he
  subst he
  have HB5 := Lib.hid hB5
  have HX4 : Hid (w5.heap[w4.heap.size]? = some (boxObj t a4 c4)) := box_heap hB5
  have HX35 : Hid (w5.heap[w3.heap.size]? = some (boxObj t a3 c3)) := (hB5.block _ (by simp; omega)).trans ((HBX4.out.block _ (by omega)).trans HX3.out)
  have HSH : Hid (ShapeAt (fun k => w2.heap.size ≤ k ∧ k < w3.heap.size + 1 ∧ FreeB w5 k) 140737488351232 w5 t w3.heap.size 0) := by
    obtain ⟨⟨p0, p1, p2, p3⟩, _⟩ := blk4 HX35.out
    refine shape_of_rep (c := c3) (a := a3) (fun k hk => hk.2.2) HN.out ⟨hz3, by omega, four_free HX35.out⟩ ⟨p0, p1, p2, p3⟩ ?_
    have hmv : ∀ k, k < w3.heap.size → w5.heap[k]? = w3.heap[k]? := fun k hk => (hB5.block k (by simp; omega)).trans ((HB34.out.block k (by simp; omega)).trans (HBX3.out.block k hk))
    exact HR3.out.move (fun k hk hl => hmv k hl) (fun k hk hl => ⟨hk.1, by omega, hk.2.same (hmv k hl)⟩)
  have hz5 : w4.heap.size + 1 ≤ w5.heap.size := by have := hB5.size; simpa using this
  clear hB5 m0 m1 m2 m3
  go_wp2_with fail
  refine (change_any t _ w3.heap.size 0 140737488351232 HSH.out (by have := HTS.out; omega)).mono ?_
  rintro e w6 ⟨⟨v6, rfl⟩, hch⟩
  have HK6 := Lib.hid hch.keep
  have hz6 := hch.keep.size
  have hk6 : ∀ k, k < w5.heap.size → (k < w2.heap.size ∨ w3.heap.size + 1 ≤ k) → w6.heap[k]? = w5.heap[k]? := fun k hk h => hch.keep.block k (fun hs => by omega) hk
  have HX46 : Hid (w6.heap[w4.heap.size]? = some (boxObj t a4 c4)) := (hk6 _ (by omega) (.inr (by omega))).trans HX4.out
  have HB25 : Hid (Below w2.heap.size w2 w5) := (HB23.out.trans (HBX3.out.mono hz3)).trans ((HB34.out.mono (by simp; omega)).trans (HB5.out.mono (by simp; omega)))
  have HB26 : Hid (Below w2.heap.size w2 w6) := HB25.out.trans (hch.keep.below (by omega) (fun k hk => hk.1))
  have HB6 := Lib.hid (HB2.out.trans (HB26.out.mono hz2))
  have HRA : Hid (Rep w6 t a) := HT.out.below (ofBox HB6.out)
  have HRC : Hid (Rep w6 t a4) := (HR4.out.move (S' := fun _ => True) (fun k hk hl => (hk6 k (by omega) (.inr hk.1)).trans ((HB5.out.block k (by simp; omega)).trans (HBX4.out.block k hl))) (fun _ _ _ => trivial)).rep
  obtain ⟨⟨m0, m1, m2, m3⟩, _⟩ := blk4 HX46.out
  obtain ⟨g0, g1, g2, g3, _⟩ := keep_box HB26.out HB2.out
  clear hch hk6
  go_wp2_with fail
  refine (refEqual_any t t _ a4 a c4 c HRC.out HRA.out).mono ?_
  rintro e w7 ⟨he, hB7⟩
  rw [eqT_self] at he
  subst he
  have HB7 := Lib.hid (HB6.out.trans (hB7.mono (box_size HB6.out)))
  clear hB7
  go_wp2_with fail
  go_ret
  exact ⟨rfl, ofBox HB7.out⟩
end Go.Proofs.YtfkegjdgbnkicaaDoor
