/-
  Contract: the node at a path (package ontimeref12).
-/
import Derived.Test.YtfkegjdgbnkicaaDoorAstAt
import Derived.Test.YtfkegjdgbnkicaaDoorIsTask
namespace Go.Proofs.YtfkegjdgbnkicaaDoor
open Go.RowKit
set_option maxRecDepth 100000

theorem below_drewN' {B : Nat} {a w : World} (h : Below B a w) (n : Nat) : Below B a (w.drewN n) := ⟨h.os, h.tape, h.output, h.size, h.block⟩

/-- the node at a path, or none, in the blocks where the tree lies -/
def AtIn (S : Nat → Prop) (t : Tree) (p : List Int) (w : World) (e : Ending) (w' : World) : Prop :=
  ∃ a c, e = .returned (.tuple #[((t.at p).getD noTree).val a c, .bool (t.at p).isSome]) ∧ RepIn S w' ((t.at p).getD noTree) a ∧ Below w.heap.size w w'

set_option maxHeartbeats 2000000 in
theorem refAt_in (S : Nat → Prop) (t : Tree) (p : List Int) (w : World) (a : Option Addr) (c : Nat) (v : Value) (hr : RepIn S w t a) (hp : PathAt w v p) (hl : p.length ≤ 1000000) :
    Calls Tryd.prog 28 #[t.val a c, v] w (AtIn S t p w) := by
  obtain ⟨pa, pc, rfl, hpk⟩ := hp.form
  have HPK := Lib.hid hpk
  have HR := Lib.hid hr
  clear hpk hp hr
  go_enter Tryd.func28, Tryd.ntmps28
  go_wp2_with fail
  go_loopw [6] (fun i wr => ∃ (j : Nat) (u : Tree) (b : Option Addr) (d : Nat), j ≤ p.length ∧ i = .int .i64 j ∧ t.at (p.take j) = some u ∧ RepIn S w u b ∧
      wr.heap[w.heap.size]? = some (.cells #[.int .u8 u.kind, .int .i64 u.num, .string u.name, .slice b u.len d] 24 (0, 0)) ∧
      wr.heap[w.heap.size + 1]? = some (.cells #[.int .u8 0, .int .i64 0, .string ⟨#[]⟩, .slice none 0 0] 24 (0, 0)) ∧ Below w.heap.size w wr) (fun i _ => p.length - (intOf i).toNat)
  case atStart =>
    refine ⟨0, t, a, c, Nat.zero_le _, rfl, rfl, HR.out, ?_, ?_, two_alloc⟩
    · rw [Below.heap_alloc _ _ _ (by simp)]; exact World.alloc_heap_new w _
    · have := World.alloc_heap_new (w.alloc (boxObj t a c)) (boxObj noTree none 0)
      rw [World.size_alloc] at this
      exact this
  case round =>
    obtain ⟨j, u, b, d, hj, rfl, hat, hru, hb0, hb1, hB⟩ := hrel
    have HAT := Lib.hid hat
    have HRU := Lib.hid hru
    have HB0 := Lib.hid hb0
    have HB1 := Lib.hid hb1
    obtain ⟨⟨x0, x1, x2, x3⟩, fx0, fx1, fx2, fx3⟩ := blk4 hb0
    obtain ⟨⟨y0, y1, y2, y3⟩, fy0, fy1, fy2, fy3⟩ := blk4 hb1
    clear hat hru hb0 hb1
    by_cases hlt : j < p.length
    · obtain ⟨pb, po, rfl, hpc, hpb, hcell⟩ := HPK.out j hlt
      have hcr := (hB.cell (p := ⟨pb, po + j, none⟩) hpb).trans hcell
      obtain ⟨k, hk⟩ : ∃ k, p.getD j 0 = k := ⟨_, rfl⟩
      rw [hk] at hcr
      have HK := Lib.hid hk
      have hcp : w.cell? ⟨pb, po + j, none⟩ = some (.int .i64 k) := by rw [← HK.out]; exact hcell
      clear hk hcell
      have HP1 := Lib.hid (take_next p j hlt)
      have HP2 := Lib.hid (List.take_append_drop (j + 1) p)
      by_cases hk0 : k < 0 ∨ (u.len : Int) ≤ k
      · have HNO : Hid (t.at p = none) := by
          have h1 : t.at (p.take (j + 1)) = none := by
            rw [HP1.out, Tree.at_snoc, HAT.out, HK.out]
            show (if 0 ≤ k ∧ k < (u.len : Int) then some (u.kid k.toNat) else none) = none
            rw [if_neg (by omega)]
          have h2 := Tree.at_none (q := p.drop (j + 1)) h1
          rw [HP2.out] at h2
          exact h2
        rcases hk0 with hk0 | hk0
        · have hk1 : decide (k < 0) = true := by simpa using hk0
          go_wp2_with fail
          go_quiet (fail)
          generalize hwq : World.drewN wr _ = wq
          have hBq : Below w.heap.size w wq := by rw [← hwq]; exact below_drewN' hB _
          have HB0q : Hid (wq.heap[w.heap.size]? = some (.cells #[.int .u8 u.kind, .int .i64 u.num, .string u.name, .slice b u.len d] 24 (0, 0))) := by rw [← hwq]; exact HB0.out
          have HB1q : Hid (wq.heap[w.heap.size + 1]? = some (.cells #[.int .u8 0, .int .i64 0, .string ⟨#[]⟩, .slice none 0 0] 24 (0, 0))) := by rw [← hwq]; exact HB1.out
          clear hwq x0 x1 x2 x3 fx0 fx1 fx2 fx3 y0 y1 y2 y3 fy0 fy1 fy2 fy3
          obtain ⟨⟨x0, x1, x2, x3⟩, fx0, fx1, fx2, fx3⟩ := blk4 HB0q.out
          obtain ⟨⟨y0, y1, y2, y3⟩, fy0, fy1, fy2, fy3⟩ := blk4 HB1q.out
          go_wp2_with fail
          have HB9 := Lib.hid (set4_at (y0 := .int .u8 0) (y1 := .int .i64 0) (y2 := .string ⟨#[]⟩) (y3 := .slice none 0 0) HB1q.out)
          obtain ⟨⟨z0, z1, z2, z3⟩, _⟩ := blk4 HB9.out
          refine bodyPost_ret (v := .tuple #[.agg #[.int .u8 0, .int .i64 0, .string ⟨#[]⟩, .slice none 0 0], .bool false]) (by simp [results, Tryd.results28, go_sem, z0, z1, z2, z3]) rfl ⟨none, 0, ?_, ?_, set4_below hBq (by omega)⟩
          · rw [HNO.out]; rfl
          · rw [HNO.out]; exact RepIn.mk ⟨by decide, by decide, by decide, by decide⟩ (.inl rfl)
        · have hk2 : 0 ≤ k := by omega
          have hk1 : decide (k < 0) = false := by simp; omega
          have hk3 : decide ((u.len : Int) ≤ k) = true := by simpa using hk0
          go_wp2_with fail
          go_quiet (fail)
          generalize hwq : World.drewN wr _ = wq
          have hBq : Below w.heap.size w wq := by rw [← hwq]; exact below_drewN' hB _
          have HB0q : Hid (wq.heap[w.heap.size]? = some (.cells #[.int .u8 u.kind, .int .i64 u.num, .string u.name, .slice b u.len d] 24 (0, 0))) := by rw [← hwq]; exact HB0.out
          have HB1q : Hid (wq.heap[w.heap.size + 1]? = some (.cells #[.int .u8 0, .int .i64 0, .string ⟨#[]⟩, .slice none 0 0] 24 (0, 0))) := by rw [← hwq]; exact HB1.out
          clear hwq x0 x1 x2 x3 fx0 fx1 fx2 fx3 y0 y1 y2 y3 fy0 fy1 fy2 fy3
          obtain ⟨⟨x0, x1, x2, x3⟩, fx0, fx1, fx2, fx3⟩ := blk4 HB0q.out
          obtain ⟨⟨y0, y1, y2, y3⟩, fy0, fy1, fy2, fy3⟩ := blk4 HB1q.out
          go_wp2_with fail
          have HB9 := Lib.hid (set4_at (y0 := .int .u8 0) (y1 := .int .i64 0) (y2 := .string ⟨#[]⟩) (y3 := .slice none 0 0) HB1q.out)
          obtain ⟨⟨z0, z1, z2, z3⟩, _⟩ := blk4 HB9.out
          refine bodyPost_ret (v := .tuple #[.agg #[.int .u8 0, .int .i64 0, .string ⟨#[]⟩, .slice none 0 0], .bool false]) (by simp [results, Tryd.results28, go_sem, z0, z1, z2, z3]) rfl ⟨none, 0, ?_, ?_, set4_below hBq (by omega)⟩
          · rw [HNO.out]; rfl
          · rw [HNO.out]; exact RepIn.mk ⟨by decide, by decide, by decide, by decide⟩ (.inl rfl)
      · obtain ⟨m, rfl⟩ := Int.eq_ofNat_of_zero_le (show 0 ≤ k by omega)
        have hm : m < u.len := by omega
        have hm0 : (0 : Int) ≤ (m : Int) := by omega
        have hm1 : (m : Int) < (u.len : Int) := by omega
        clear hk0
        rcases HRU.out.kids with h0 | ⟨ub, uo, rfl, _, hc⟩
        · omega
        obtain ⟨ai, ci, hn, hrk⟩ := hc m hm
        have hlen := HRU.out.fits.len
        clear hc
        have HAK : Hid (t.at (p.take (j + 1)) = some (u.kid m)) := by
          show _ = _
          rw [HP1.out, Tree.at_snoc, HAT.out, HK.out]
          show (if 0 ≤ (m : Int) ∧ (m : Int) < (u.len : Int) then some (u.kid (m : Int).toNat) else none) = _
          rw [if_pos ⟨hm0, hm1⟩, Int.toNat_natCast]
        have HRK := Lib.hid hrk
        clear hrk
        have hk1 : decide ((m : Int) < 0) = false := by simp
        have hk3 : decide ((u.len : Int) ≤ (m : Int)) = false := by simp; omega
        go_wp2_with fail
        go_quiet (fail)
        generalize hwq : World.drewN wr _ = wq
        have hBq : Below w.heap.size w wq := by rw [← hwq]; exact below_drewN' hB _
        have HB0q : Hid (wq.heap[w.heap.size]? = some (.cells #[.int .u8 u.kind, .int .i64 u.num, .string u.name, .slice (some ⟨ub, uo, none⟩) u.len d] 24 (0, 0))) := by rw [← hwq]; exact HB0.out
        have HB1q : Hid (wq.heap[w.heap.size + 1]? = some (.cells #[.int .u8 0, .int .i64 0, .string ⟨#[]⟩, .slice none 0 0] 24 (0, 0))) := by rw [← hwq]; exact HB1.out
        clear hwq x0 x1 x2 x3 fx0 fx1 fx2 fx3 y0 y1 y2 y3 fy0 fy1 fy2 fy3
        obtain ⟨⟨x0, x1, x2, x3⟩, fx0, fx1, fx2, fx3⟩ := blk4 HB0q.out
        obtain ⟨⟨y0, y1, y2, y3⟩, fy0, fy1, fy2, fy3⟩ := blk4 HB1q.out
        have hcr1 := (hBq.cell (p := ⟨pb, po + j, none⟩) hpb).trans hcp
        obtain ⟨f0, f1, f2, f3⟩ := hn.below hBq hn.lt
        clear hcr
        go_wp2_with fail
        go_still_tail 8, (by kernel_rfl)
        change wpList _ _ _ _ _ wq.drew
        generalize hwd : wq.drew = wd
        have hBd : Below w.heap.size w wd := by rw [← hwd]; exact hBq.drew
        have HB0d : Hid (wd.heap[w.heap.size]? = some (.cells #[.int .u8 u.kind, .int .i64 u.num, .string u.name, .slice (some ⟨ub, uo, none⟩) u.len d] 24 (0, 0))) := by rw [← hwd]; exact HB0q.out
        have HB1d : Hid (wd.heap[w.heap.size + 1]? = some (.cells #[.int .u8 0, .int .i64 0, .string ⟨#[]⟩, .slice none 0 0] 24 (0, 0))) := by rw [← hwd]; exact HB1q.out
        clear hwd x0 x1 x2 x3 fx0 fx1 fx2 fx3 y0 y1 y2 y3 fy0 fy1 fy2 fy3 f0 f1 f2 f3 hcr1
        obtain ⟨⟨x0, x1, x2, x3⟩, fx0, fx1, fx2, fx3⟩ := blk4 HB0d.out
        go_wp2_with fail
        go_roundw
        case rel => exact ⟨j + 1, u.kid m, ai, ci, by omega, by go_num, HAK.out, HRK.out, set4_at HB0d.out, (set4_other (by omega)).trans HB1d.out, set4_below hBd (Nat.le_refl _)⟩
        case measure => simp [intOf]; omega
    · obtain rfl : j = p.length := by omega
      have HAT' : Hid (t.at p = some u) := by have := HAT.out; rw [List.take_length] at this; exact this
      have hz : w.heap.size + 1 < wr.heap.size := (Array.getElem?_eq_some_iff.1 HB1.out).1
      go_wp2_with fail
      have HB9 := Lib.hid (set4_at (y0 := .int .u8 u.kind) (y1 := .int .i64 u.num) (y2 := .string u.name) (y3 := .slice b u.len d) HB1.out)
      obtain ⟨⟨z0, z1, z2, z3⟩, _⟩ := blk4 HB9.out
      refine bodyPost_ret (v := .tuple #[u.val b d, .bool true]) (by simp [results, Tryd.results28, go_sem, z0, z1, z2, z3]) rfl ⟨b, d, ?_, ?_, set4_below hB (by omega)⟩
      · rw [HAT'.out]; rfl
      · rw [HAT'.out]
        exact HRU.out.move (fun k _ hk => (set4_below hB (by omega)).block k hk) (fun _ h _ => h)
theorem refAt_any (t : Tree) (p : List Int) (w : World) (a : Option Addr) (c : Nat) (v : Value) (hr : Rep w t a) (hp : PathAt w v p) (hl : p.length ≤ 1000000) :
    Calls Tryd.prog 28 #[t.val a c, v] w (AtOk t p w) :=
  (refAt_in _ t p w a c v hr.toIn hp hl).mono fun _ _ ⟨a', c', h1, h2, h3⟩ => ⟨a', c', h1, h2.rep, h3⟩
end Go.Proofs.YtfkegjdgbnkicaaDoor
