/-
  Contract: change turns numbers and names of the tree that it is handed, in its own blocks alone (package ontimelaw12).
-/
import Derived.Test.YtfkegjdgbnkicaaDoorChangePlain
import Derived.Test.YtfkegjdgbnkicaaDoorAstSize
import Derived.Laws.Concat
import Derived.Outline
namespace Go.Proofs.YtfkegjdgbnkicaaDoor
open Go.RowKit
set_option maxRecDepth 100000

set_option maxHeartbeats 1000000 in
theorem change_any {S : Nat → Prop} : ∀ (t : Tree) (w : World) (b off B : Nat), ShapeAt S B w t b off → B + t.size ≤ 1000000000000000000 →
    Calls Tryd.prog 35 #[.pointer (some ⟨b, off, none⟩)] w fun e w' => (∃ v, e = .returned v) ∧ Chg S t.size w w' := by
  intro t
  induction t using Tree.ind with
  | h t ih =>
    intro w b off B hsh hB
    have hl := t.len_lt_size
    have HSE := Lib.hid t.size_eq
    have IH := Lib.hid ih
    clear ih
    obtain ⟨m, s, a, c, hh⟩ := hsh.has
    have HH := Lib.hid hh
    have HSH := Lib.hid hsh
    have n1 := hh.num
    have n2 := hh.name
    have n3 := hh.kids
    have q1 := hh.free (off + 1)
    have q2 := hh.free (off + 2)
    have hsB := hh.le
    clear hh hsh
    go_enter Tryd.func35, Tryd.ntmps35
    go_wp2_with fail
    have HC0 : Hid (Chg S 1 w ((w.setCell ⟨b, off + 1, none⟩ (.int .i64 (wrap64 (m + 1)))).setCell ⟨b, off + 2, none⟩ (.string (s ++ ⟨#[113]⟩)))) := by
      have h1 : Chg S 0 w (w.setCell ⟨b, off + 1, none⟩ (.int .i64 (wrap64 (m + 1)))) := chg_int _ HH.out.blk HH.out.num
      have h2 : (w.setCell ⟨b, off + 1, none⟩ (.int .i64 (wrap64 (m + 1)))).cell? ⟨b, off + 2, none⟩ = some (.string s) := by
        rw [World.cell?_setCell_other _ _ _ _ (by intro e; simp at e)]; exact HH.out.name
      have h3 := h1.trans (chg_str (s' := s ++ ⟨#[113]⟩) HH.out.blk h2 (by rw [ByteArray.size_append]; exact Nat.le_refl _))
      exact h3
    generalize World.setCell _ _ _ = w0 at HC0
    clear n1 n2 n3 q1 q2
    go_loopw [22] (fun i wr => ∃ j : Nat, j ≤ t.len ∧ i = .int .i64 j ∧ Chg S (1 + Tree.sumTo (fun i => (t.kid i).size) j) w wr) (fun i _ => t.len - (intOf i).toNat)
    case atStart => exact ⟨0, Nat.zero_le _, rfl, HC0.out⟩
    case round =>
      obtain ⟨j, hj, rfl, hch⟩ := hrel
      have HCH := Lib.hid hch
      obtain ⟨m', s', a', c', hh⟩ := (HSH.out.chg hch).has
      obtain ⟨rfl, rfl⟩ : a = a' ∧ c = c' := by
        have h6 := hch.cell b (off + 3) HH.out.blk
        rw [HH.out.kids, hh.kids] at h6
        rcases h6 with e | ⟨_, _, e, _⟩ | ⟨_, _, e, _⟩
        · cases e; exact ⟨rfl, rfl⟩
        · cases e
        · cases e
      have HH2 := Lib.hid hh
      have n3 := hh.kids
      clear hch hh
      by_cases hlt : j < t.len
      · have HE : Hid (∃ b' off', a = some ⟨b', off', none⟩ ∧ ∀ i, i < t.len → ShapeAt S (B + (1 + Tree.sumTo (fun i => (t.kid i).size) j)) wr (t.kid i) b' (off' + i * 4)) := by
          rcases HH2.out.each with h0 | h
          · omega
          · exact h
        obtain ⟨b', off', rfl, hk⟩ := HE.out
        have HKJ := Lib.hid (hk j hlt)
        clear hk HE
        have HSS := Lib.hid (Tree.sumTo_succ (fun i => (t.kid i).size) j)
        have hs1 := Tree.sumTo_le (f := fun i => (t.kid i).size) (show j + 1 ≤ t.len by omega)
        have hs2 : B + (1 + Tree.sumTo (fun i => (t.kid i).size) j) + (t.kid j).size ≤ 1000000000000000000 := by have := HSS.out; have := HSE.out; omega
        clear hs1
        have HI := Lib.hid (IH.out j hlt wr b' (off' + j * 4) _ HKJ.out hs2)
        clear hs2
        go_wp2_with fail
        refine HI.out.mono ?_
        rintro e w1 ⟨⟨v, rfl⟩, hc1⟩
        have HC1 := Lib.hid (HCH.out.trans hc1)
        clear hc1
        go_wp2_with fail
        all_goals
          go_roundw
          case rel => exact ⟨j + 1, by omega, by go_num, by rw [HSS.out]; have := HC1.out; rwa [Nat.add_assoc] at this⟩
          case measure => simp [intOf]; omega
      · obtain rfl : j = t.len := by omega
        go_wp2_with fail
        go_end0
        exact ⟨⟨_, rfl⟩, by rw [HSE.out]; exact HCH.out⟩
end Go.Proofs.YtfkegjdgbnkicaaDoor
