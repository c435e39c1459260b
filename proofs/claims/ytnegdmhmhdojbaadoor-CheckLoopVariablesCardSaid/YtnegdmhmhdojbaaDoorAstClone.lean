/-
  Contract: Clone returns a tree that is equal and lies in new memory (package ast).
-/
import Derived.Test.YtnegdmhmhdojbaaDoorProg
import Derived.Test.YtnegdmhmhdojbaaDoorTreeBase
import Derived.Test.YtnegdmhmhdojbaaDoorBases
import Derived.Lib.Hide
import Derived.LoopTactic
import Derived.Outline
namespace Go.Proofs.YtnegdmhmhdojbaaDoor
set_option linter.unusedVariables false
set_option linter.unusedSimpArgs false
open Go.RowKit
set_option maxRecDepth 100000

/-- a copy of a tree in new memory, nothing that was there turned -/
def CopyOf (t : Tree) (w : World) (e : Ending) (w' : World) : Prop :=
  ∃ a c, e = .returned (t.val a c) ∧ RepIn (fun k => w.heap.size ≤ k) w' t a ∧ Below w.heap.size w w'

theorem Tryd.infoNode : (Tryd.prog.info? 43).map (fun i => (i.zero, i.size, i.bytes)) = some (some (.agg #[.int .u8 0, .int .i64 0, .string ⟨#[]⟩, .slice none 0 0]), 4, 56) := by kernel_rfl

theorem row_one (t : Tree) (x : Option Addr × Nat) : ∀ u ∈ t.row x, u.oneCell' = true := by
  intro u hu
  simp [Tree.row] at hu
  rcases hu with rfl | rfl | rfl | rfl <;> rfl

set_option maxHeartbeats 1000000 in
theorem clone_any : ∀ (t : Tree) (w : World) (a : Option Addr) (c : Nat), Rep w t a → t.size ≤ 1000000 →
    Calls Tryd.prog 41 #[t.val a c] w (CopyOf t w) := by
  intro t
  induction t using Tree.ind with
  | h t ih =>
    intro w a c hv hs
    obtain ⟨i0, hi, hz0, hz1, hz2⟩ := info_parts Tryd.infoNode
    have IH := Lib.hid ih
    clear ih
    have hfit := hv.fits
    have hl := hfit.len
    have HFIT := Lib.hid hfit
    have HK := Lib.hid hv.kids
    clear hv hfit
    have hls : t.len ≤ 1000000 := by
      have := Tree.size_eq t
      have h2 : ∀ (f : Nat → Nat) (n : Nat), (∀ i, 1 ≤ f i) → n ≤ Tree.sumTo f n := by
        intro f n hf
        induction n with
        | zero => exact Nat.zero_le _
        | succ n ihn => rw [Tree.sumTo_succ]; have := hf n; omega
      have := h2 (fun i => (t.kid i).size) t.len (fun i => Tree.size_pos _)
      omega
    have HSZ : Hid (∀ j, j < t.len → (t.kid j).size ≤ 1000000) := fun j hj => by have := Tree.size_kid hj; omega
    clear hs
    go_enter Tryd.func41, Tryd.ntmps41
    go_wp2_with fail
    go_loopw [3, 9] (fun v i wr => ∃ (j : Nat) (x : Nat → Option Addr × Nat), j ≤ t.len ∧ i = .int .i64 j ∧ wr.ownsRow (w.heap.size + 2) 43 4 v j (rowsTo t.kid x j) ∧ (∀ i, i < j → RepIn (fun k => w.heap.size + 2 ≤ k ∧ v.ownBlock ≠ some k) wr (t.kid i) (x i).1) ∧ Below (w.heap.size + 2) ((w.alloc (.cells #[.int .u8 t.kind, .int .i64 t.num, .string t.name, .slice a t.len c] 43)).alloc (.cells #[.int .u8 0, .int .i64 0, .string ⟨#[]⟩, .slice none 0 0] 43)) wr) (fun _ i _ => t.len - (intOf i).toNat)
    case atStart => exact ⟨0, fun _ => (none, 0), Nat.zero_le _, rfl, World.ownsRow_nil _ _ _ _, fun i hi => by omega, Below.refl _ _⟩
    case round =>
      obtain ⟨j, x, hj, rfl, hown, hreps, hBx⟩ := hrel
      have hsz : w.heap.size + 2 ≤ wr.heap.size := by have := hBx.size; simpa using this
      have hB : Below w.heap.size w wr := (((Below.refl _ w).alloc (Nat.le_refl _) _).alloc (by simp) _).trans (hBx.mono (by omega))
      have HB := Lib.hid hB
      have HBX := Lib.hid hBx
      have HREPS := Lib.hid hreps
      have HOWN := Lib.hid hown
      clear hBx hreps hown
      by_cases hlt : j < t.len
      · rcases HK.out with h0 | ⟨b, off, rfl, hc⟩
        · omega
        obtain ⟨ai, ci, hn, hr⟩ := hc j hlt
        obtain ⟨f0, f1, f2, f3⟩ := hn.below hB hn.lt
        clear hc hn hB
        go_wp2_with fail
        refine (IH.out j hlt _ ai ci (hr.below (HB.out.alloc (by omega) _)) (HSZ.out j hlt)).mono ?_
        rintro e w1 ⟨a', c', rfl, hcopy, hB1⟩
        have hsz1 : wr.heap.size + 1 ≤ w1.heap.size := by have := hB1.size; simpa using this
        have HC := Lib.hid hcopy
        have HB1 := Lib.hid hB1
        have HOWN1 : Hid (w1.ownsRow (w.heap.size + 2) 43 4 u3 j (rowsTo t.kid x j)) := ownsRow_below (HOWN.out.alloc _) hB1
        clear hcopy hB1 hr f0 f1 f2 f3
        go_wp2_with (at_builtin; refine wpList_append_row _ rfl _ _ 41 rfl (w.heap.size + 2) 43 i0 _ 4 56 Tryd.underlying41 hi hz0 hz1 hz2 rfl (by decide) _ _ _ rfl (HOWN1.out.alloc _) ⟨w1.heap.size, 0, none⟩ 1 1 ((t.kid j).row (a', c')) rfl rfl ?c1 (row_one _ _) (by decide) ?c3 ?c4 ?c5 ?_)
        case c1 =>
          intro k u hu
          match k, hu with
          | 0, hu => simp [Tree.row] at hu; subst hu; exact World.cell?_alloc_new _ _ _ 0
          | 1, hu => simp [Tree.row] at hu; subst hu; exact World.cell?_alloc_new _ _ _ 1
          | 2, hu => simp [Tree.row] at hu; subst hu; exact World.cell?_alloc_new _ _ _ 2
          | 3, hu => simp [Tree.row] at hu; subst hu; exact World.cell?_alloc_new _ _ _ 3
          | k + 4, hu => simp [Tree.row] at hu
        case c3 => unfold maxLen; omega
        case c4 => omega
        case c5 => simp; omega
        intro g cap w2 hown2 hgrow hplace
        have hu3 : ∀ k, u3.ownBlock = some k → w.heap.size + 2 ≤ k ∧ k < wr.heap.size := HOWN.out.lt
        have hrow : rowsTo t.kid x j ++ (t.kid j).row (a', c') = rowsTo t.kid (fun i => if i = j then (a', c') else x i) (j + 1) := by
          show _ = rowsTo t.kid _ j ++ _
          rw [rowsTo_congr (x := x) (y := fun i => if i = j then (a', c') else x i) (fun i hi => by rw [if_neg (by omega)])]
          simp
        rw [hrow] at hown2
        have hkeep : ∀ k, w.heap.size + 2 ≤ k → k < wr.heap.size → u3.ownBlock ≠ some k → w2.heap[k]? = wr.heap[k]? := by
          intro k _ hk hne
          rw [hgrow.block k (by simp; omega) (fun e => hne e.symm), Below.heap_alloc _ _ _ (by omega), HB1.out.block k (by simp; omega), Below.heap_alloc _ _ _ hk]
        have hB2 : Below (w.heap.size + 2) ((w.alloc (.cells #[.int .u8 t.kind, .int .i64 t.num, .string t.name, .slice (some ⟨b, off, none⟩) t.len c] 43)).alloc (.cells #[.int .u8 0, .int .i64 0, .string ⟨#[]⟩, .slice none 0 0] 43)) w2 :=
          (((HBX.out.alloc hsz _).trans (HB1.out.mono (by simp; omega))).alloc (by omega) _).grown hgrow (by simp; omega) (fun k hk => (hu3 k hk).1)
        have HR2 : Hid (∀ i, i < j + 1 → RepIn (fun k => w.heap.size + 2 ≤ k ∧ (Value.slice (some ⟨g, 0, none⟩) (j + 1) cap).ownBlock ≠ some k) w2 (t.kid i) ((fun i => if i = j then (a', c') else x i) i).1) := by
          intro i hi
          by_cases e : i = j
          · subst e
            simp only [if_true]
            refine HC.out.move (fun k hk hlt => ?_) (fun k hk hlt => ?_)
            · have hk' : wr.heap.size + 1 ≤ k := by simpa using hk
              rw [hgrow.block k (by simp; omega) (fun e => by have := (hu3 k e.symm).2; omega), Below.heap_alloc _ _ _ hlt]
            · have hk' : wr.heap.size + 1 ≤ k := by simpa using hk
              refine ⟨by omega, fun e => ?_⟩
              have hgk : g = k := by simpa [Value.ownBlock] using e
              rcases hplace with h | h
              · have := (hu3 _ h).2; omega
              · omega
          · simp only [if_neg e]
            refine (HREPS.out i (by omega)).move (fun k hk hlt => hkeep k hk.1 hlt hk.2) (fun k hk hlt => ⟨hk.1, fun e => ?_⟩)
            have hgk : g = k := by simpa [Value.ownBlock] using e
            rcases hplace with h | h
            · exact hk.2 (by rw [h, hgk])
            · omega
        have HO2 := Lib.hid hown2
        clear hown2 hgrow hplace hkeep hrow hu3
        go_wp2_with fail
        go_roundw
        case rel => exact ⟨j + 1, _, by omega, by go_num, HO2.out, HR2.out, hB2⟩
        case measure => simp [intOf]; omega
      · obtain rfl : j = t.len := by omega
        have c0 : wr.cell? ⟨w.heap.size, 0, none⟩ = some (.int .u8 t.kind) := (HBX.out.cell (p := ⟨w.heap.size, 0, none⟩) (by show w.heap.size < _; omega)).trans (by simp [World.cell?_alloc_lt])
        have c1 : wr.cell? ⟨w.heap.size, 1, none⟩ = some (.int .i64 t.num) := (HBX.out.cell (p := ⟨w.heap.size, 1, none⟩) (by show w.heap.size < _; omega)).trans (by simp [World.cell?_alloc_lt])
        have c2 : wr.cell? ⟨w.heap.size, 2, none⟩ = some (.string t.name) := (HBX.out.cell (p := ⟨w.heap.size, 2, none⟩) (by show w.heap.size < _; omega)).trans (by simp [World.cell?_alloc_lt])
        have c3 : wr.cell? ⟨w.heap.size, 3, none⟩ = some (.slice a t.len c) := (HBX.out.cell (p := ⟨w.heap.size, 3, none⟩) (by show w.heap.size < _; omega)).trans (by simp [World.cell?_alloc_lt])
        have hlt1 : w.heap.size < wr.heap.size := by omega
        have z0 : wr.cell? ⟨w.heap.size + 1, 0, none⟩ = some (.int .u8 0) := (HBX.out.cell (p := ⟨w.heap.size + 1, 0, none⟩) (by show w.heap.size + 1 < _; omega)).trans (by simp)
        have z1 : wr.cell? ⟨w.heap.size + 1, 1, none⟩ = some (.int .i64 0) := (HBX.out.cell (p := ⟨w.heap.size + 1, 1, none⟩) (by show w.heap.size + 1 < _; omega)).trans (by simp)
        have z2 : wr.cell? ⟨w.heap.size + 1, 2, none⟩ = some (.string ⟨#[]⟩) := (HBX.out.cell (p := ⟨w.heap.size + 1, 2, none⟩) (by show w.heap.size + 1 < _; omega)).trans (by simp)
        have z3 : wr.cell? ⟨w.heap.size + 1, 3, none⟩ = some (.slice none 0 0) := (HBX.out.cell (p := ⟨w.heap.size + 1, 3, none⟩) (by show w.heap.size + 1 < _; omega)).trans (by simp)
        have fz : ∀ k, k < w.heap.size + 2 → w.heap.size ≤ k → ∀ i, wr.frozen? ⟨k, i, none⟩ = false := by
          intro k h1 h2 i
          rw [HBX.out.frozen (p := ⟨k, i, none⟩) h1]
          by_cases e : k = w.heap.size
          · subst e; rw [World.frozen?_alloc_old _ _ _ (by simp)]; exact World.frozen?_alloc_new _ _ _ _
          · obtain rfl : k = w.heap.size + 1 := by omega
            simp
        have g3 := fz w.heap.size (by omega) (by omega) 3
        have q0 := fz (w.heap.size + 1) (by omega) (by omega) 0
        have q1 := fz (w.heap.size + 1) (by omega) (by omega) 1
        have q2 := fz (w.heap.size + 1) (by omega) (by omega) 2
        have q3 := fz (w.heap.size + 1) (by omega) (by omega) 3
        clear fz
        rcases ownsRow_form HOWN.out with ⟨rfl, h0⟩ | ⟨g, cap, rfl, hg, hgl, hcap⟩
        · have H0 := Lib.hid h0
          clear h0
          go_wp2_with fail
          refine bodyPost_ret (v := .agg #[.int .u8 t.kind, .int .i64 t.num, .string t.name, .slice none 0 0]) (by simp [results, Tryd.results41, go_sem, z0, z1, z2, z3]) rfl ?_
          exact ⟨none, 0, by show _ = Ending.returned (.agg #[.int .u8 t.kind, .int .i64 t.num, .string t.name, .slice none t.len 0]); rw [H0.out], RepIn.mk HFIT.out (.inl H0.out),
            ((((HB.out.setCell (p := ⟨w.heap.size, 3, none⟩) (Nat.le_refl _) _).setCell (p := ⟨w.heap.size + 1, 0, none⟩) (Nat.le_succ _) _).setCell (p := ⟨w.heap.size + 1, 1, none⟩) (Nat.le_succ _) _).setCell (p := ⟨w.heap.size + 1, 2, none⟩) (Nat.le_succ _) _).setCell (p := ⟨w.heap.size + 1, 3, none⟩) (Nat.le_succ _) _⟩
        · go_wp2_with fail
          refine bodyPost_ret (v := .agg #[.int .u8 t.kind, .int .i64 t.num, .string t.name, .slice (some ⟨g, 0, none⟩) t.len cap]) (by simp [results, Tryd.results41, go_sem, z0, z1, z2, z3]) rfl ?_
          refine ⟨some ⟨g, 0, none⟩, cap, rfl, ?_, ((((HB.out.setCell (p := ⟨w.heap.size, 3, none⟩) (Nat.le_refl _) _).setCell (p := ⟨w.heap.size + 1, 0, none⟩) (Nat.le_succ _) _).setCell (p := ⟨w.heap.size + 1, 1, none⟩) (Nat.le_succ _) _).setCell (p := ⟨w.heap.size + 1, 2, none⟩) (Nat.le_succ _) _).setCell (p := ⟨w.heap.size + 1, 3, none⟩) (Nat.le_succ _) _⟩
          have keep : ∀ (W : World) (u0 u1 u2 u3 u4 : Value) (k : Nat), w.heap.size + 2 ≤ k → (((((W.setCell ⟨w.heap.size, 3, none⟩ u0).setCell ⟨w.heap.size + 1, 0, none⟩ u1).setCell ⟨w.heap.size + 1, 1, none⟩ u2).setCell ⟨w.heap.size + 1, 2, none⟩ u3).setCell ⟨w.heap.size + 1, 3, none⟩ u4).heap[k]? = W.heap[k]? := by
            intro W u0 u1 u2 u3 u4 k hk
            rw [Below.heap_setCell _ _ _ _ (by show k ≠ w.heap.size + 1; omega), Below.heap_setCell _ _ _ _ (by show k ≠ w.heap.size + 1; omega), Below.heap_setCell _ _ _ _ (by show k ≠ w.heap.size + 1; omega), Below.heap_setCell _ _ _ _ (by show k ≠ w.heap.size + 1; omega), Below.heap_setCell _ _ _ _ (by show k ≠ w.heap.size; omega)]
          refine RepIn.mk HFIT.out (.inr ⟨g, 0, rfl, by omega, fun i hi => ⟨(x i).1, (x i).2, NodeAt.same (w := wr) ?_ (keep _ _ _ _ _ _ g hg), (HREPS.out i hi).move (fun k hk _ => keep _ _ _ _ _ _ k hk.1) (fun k hk _ => by have := hk.1; omega)⟩⟩)
          have ca := fun d (hd : d < 4) => (HOWN.out.cellAt (i * 4 + d) (by omega)).trans (rowsTo_at t.kid x hi d hd)
          have k0 := ca 0 (by omega)
          have k1 := ca 1 (by omega)
          have k2 := ca 2 (by omega)
          have k3 := ca 3 (by omega)
          rw [Nat.zero_add]
          exact ⟨k0, k1, k2, k3⟩
end Go.Proofs.YtnegdmhmhdojbaaDoor
