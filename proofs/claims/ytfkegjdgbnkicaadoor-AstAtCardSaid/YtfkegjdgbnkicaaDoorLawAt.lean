/-
  The statement AstAt, walked (package ontimelaw12), over the contract of awake.
-/
import Derived.Test.YtfkegjdgbnkicaaDoorLawKinds
import Derived.Test.YtfkegjdgbnkicaaDoorRefAt
import Derived.Test.YtfkegjdgbnkicaaDoorRefEqual
namespace Go.Proofs.YtfkegjdgbnkicaaDoor
open Go.RowKit
set_option maxRecDepth 100000

set_option maxHeartbeats 4000000 in
theorem astAt_of (HW : AwakeAt) (t : Tree) (p : List Int) (w : World) (a : Option Addr) (c : Nat) (v : Value) (ht : Rep w t a) (hp : PathAt w v p) (hg : SignsIn w) :
    Calls Tryd.prog 7 #[t.val a c, v] w fun e w' => e = .returned (.bool true) ∧ Below w.heap.size w w' := by
  have HT := Lib.hid ht
  have HP := Lib.hid hp
  have HG := Lib.hid hg
  obtain ⟨pa, pc, rfl, _⟩ := hp.form
  have HB0 : Hid (Below (w.heap.size + 1) (w.alloc (boxObj t a c)) (w.alloc (boxObj t a c))) := Below.refl _ _
  clear ht hp hg
  go_enter Tryd.func7, Tryd.ntmps7
  go_wp2_with fail
  refine (HW _ (HG.out.below (ofBox HB0.out))).mono ?_
  rintro e w1 ⟨rfl, hB1⟩
  have HB1 := Lib.hid (HB0.out.trans (hB1.mono (by simp)))
  obtain ⟨f0, f1, f2, f3, _⟩ := keep_box hB1 HB0.out
  clear hB1
  go_wp2_with fail
  by_cases hbig : t.big
  · refine (big_yes t _ a c (HT.out.below (ofBox HB1.out)) hbig).mono ?_
    rintro e w2 ⟨rfl, hB2⟩
    have HB2 := Lib.hid (HB1.out.trans (hB2.mono (box_size HB1.out)))
    clear hB2
    go_wp2_with fail
    go_ret
    exact ⟨rfl, ofBox HB2.out⟩
  refine (big_no t _ a c (HT.out.below (ofBox HB1.out)) hbig).mono ?_
  rintro e w2 ⟨rfl, hB2⟩
  have HB2 := Lib.hid (HB1.out.trans (hB2.mono (box_size HB1.out)))
  obtain ⟨g0, g1, g2, g3, _⟩ := keep_box hB2 HB1.out
  have HTS : Hid (t.size ≤ 1000000) := by have := (Tree.small hbig).1; show _ ≤ _; omega
  clear hB2 f0 f1 f2 f3 hbig
  by_cases hl : 50 < p.length
  · go_wp2_with fail
    go_ret
    exact ⟨rfl, ofBox HB2.out⟩
  go_wp2_with fail
  refine (at_any t p _ a c _ (HT.out.below (ofBox HB2.out)) HTS.out (HP.out.below (ofBox HB2.out)) (by omega)).mono ?_
  rintro e w3 ⟨a3, c3, rfl, hr3, hB3⟩
  have HB3 := Lib.hid (HB2.out.trans (hB3.mono (box_size HB2.out)))
  obtain ⟨f0, f1, f2, f3, _⟩ := keep_box hB3 HB2.out
  have HR3 := Lib.hid hr3
  have hz3 : w.heap.size < w3.heap.size := by have := box_size HB3.out; omega
  clear hB3 hr3 g0 g1 g2 g3
  obtain ⟨r, hr⟩ : ∃ r, (t.at p).getD noTree = r := ⟨_, rfl⟩
  obtain ⟨q, hq⟩ : ∃ q, (t.at p).isSome = q := ⟨_, rfl⟩
  have HR : Hid (∀ W e W', AtOk t p W e W' → ∃ a c, e = .returned (.tuple #[r.val a c, .bool q]) ∧ Rep W' r a ∧ Below W.heap.size W W') := by
    intro W e W' h
    obtain ⟨a, c, h1, h2, h3⟩ := h
    rw [hr] at h1 h2
    rw [hq] at h1
    exact ⟨a, c, h1, h2, h3⟩
  have HR3' : Hid (Rep w3 r a3) := by have := HR3.out; rw [hr] at this; exact this
  rw [hr, hq]
  clear HR3 hr hq
  go_wp2_with fail
  have HBM : Hid (Below w3.heap.size w3 (w3.alloc (boxObj r a3 c3))) := (Below.refl _ _).alloc (Nat.le_refl _) _
  have HB4 := Lib.hid (HB3.out.trans (HBM.out.mono (box_size HB3.out)))
  refine (refAt_any t p _ a c _ (HT.out.below (ofBox HB4.out)) (HP.out.below (ofBox HB4.out)) (by omega)).mono ?_
  intro e w5 h5
  obtain ⟨a5, c5, rfl, hr5, hB5⟩ := HR.out _ _ _ h5
  clear h5
  have m0 : w5.cell? ⟨w3.heap.size, 0, none⟩ = some (.int .u8 r.kind) := below_cell hB5 (World.cell?_alloc_new w3 _ _ 0)
  have m1 : w5.cell? ⟨w3.heap.size, 1, none⟩ = some (.int .i64 r.num) := below_cell hB5 (World.cell?_alloc_new w3 _ _ 1)
  have m2 : w5.cell? ⟨w3.heap.size, 2, none⟩ = some (.string r.name) := below_cell hB5 (World.cell?_alloc_new w3 _ _ 2)
  have m3 : w5.cell? ⟨w3.heap.size, 3, none⟩ = some (.slice a3 r.len c3) := below_cell hB5 (World.cell?_alloc_new w3 _ _ 3)
  have hz5 : w3.heap.size < w5.heap.size := World.block_lt_of_cell? w5 _ m0
  have HB5 := Lib.hid (HB4.out.trans (hB5.mono (box_size HB4.out)))
  have HR5 := Lib.hid hr5
  have HR35 : Hid (Rep w5 r a3) := (HR3'.out.below HBM.out).below hB5
  clear hB5 hr5
  go_wp2_with fail
  have HBL : Hid (Below w5.heap.size w5 (w5.alloc (boxObj r a5 c5))) := (Below.refl _ _).alloc (Nat.le_refl _) _
  refine (refEqual_any r r _ a3 a5 c3 c5 (HR35.out.below HBL.out) (HR5.out.below HBL.out)).mono ?_
  rintro e w6 ⟨he, hB6⟩
  rw [eqT_self] at he
  subst he
  have HB6 := Lib.hid ((HB5.out.trans (HBL.out.mono (box_size HB5.out))).trans (hB6.mono (Nat.le_trans (box_size HB5.out) HBL.out.size)))
  clear hB6
  go_wp2_with fail
  go_ret
  exact ⟨rfl, ofBox HB6.out⟩
end Go.Proofs.YtfkegjdgbnkicaaDoor
