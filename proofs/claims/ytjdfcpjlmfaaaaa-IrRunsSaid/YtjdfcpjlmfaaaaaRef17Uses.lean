/-
  Contracts: Uses, Succ (package ontimeref17).
-/
import Derived.Test.YtjdfcpjlmfaaaaaRef17
import Derived.Maps.AppendAt
import Derived.Laws.OwnMore
namespace Go.Proofs.Ytjdfcpjlmfaaaaa
set_option linter.unusedVariables false
set_option linter.unusedSimpArgs false
open Go.RowKit
set_option maxRecDepth 100000

theorem Try.infoInt : (Try.prog.info? 3).map (fun i => (i.zero, i.size, i.bytes)) = some (some (.int .i64 0), 1, 8) := by kernel_rfl
theorem shape_x {op : Int} (h0 : 0 ≤ op) : hasB (shapeOf op) 120 (shapeOf op).size = decide (op = 2 ∨ op = 3 ∨ op = 4 ∨ op = 5 ∨ op = 6 ∨ op = 7 ∨ op = 8 ∨ op = 10 ∨ op = 16) := by
  by_cases h : 17 ≤ op
  · rw [shape_none h]
    have : ¬ (op = 2 ∨ op = 3 ∨ op = 4 ∨ op = 5 ∨ op = 6 ∨ op = 7 ∨ op = 8 ∨ op = 10 ∨ op = 16) := by omega
    rw [decide_eq_false this]; rfl
  · obtain ⟨k, rfl⟩ := Int.eq_ofNat_of_zero_le h0
    have hk : k < 17 := by omega
    have all : ∀ k : Fin 17, hasB (shapeOf (k.1 : Int)) 120 (shapeOf (k.1 : Int)).size = decide ((k.1 : Int) = 2 ∨ (k.1 : Int) = 3 ∨ (k.1 : Int) = 4 ∨ (k.1 : Int) = 5 ∨ (k.1 : Int) = 6 ∨ (k.1 : Int) = 7 ∨ (k.1 : Int) = 8 ∨ (k.1 : Int) = 10 ∨ (k.1 : Int) = 16) := by decide
    exact all ⟨k, hk⟩
theorem shape_y {op : Int} (h0 : 0 ≤ op) : hasB (shapeOf op) 121 (shapeOf op).size = decide (op = 3 ∨ op = 5 ∨ op = 7) := by
  by_cases h : 17 ≤ op
  · rw [shape_none h]
    have : ¬ (op = 3 ∨ op = 5 ∨ op = 7) := by omega
    rw [decide_eq_false this]; rfl
  · obtain ⟨k, rfl⟩ := Int.eq_ofNat_of_zero_le h0
    have hk : k < 17 := by omega
    have all : ∀ k : Fin 17, hasB (shapeOf (k.1 : Int)) 121 (shapeOf (k.1 : Int)).size = decide ((k.1 : Int) = 3 ∨ (k.1 : Int) = 5 ∨ (k.1 : Int) = 7) := by decide
    exact all ⟨k, hk⟩

/-- an owned row of ints is a slice of ints -/
theorem ints_of_row {w : World} {base : Nat} {v : Value} {xs : List Int} (h : w.ownsRow base 3 1 v xs.length (xs.map (Value.int .i64))) : IntsIn (fun k => base ≤ k) w v xs := by
  rcases h.2 with ⟨rfl, h0⟩ | ⟨g, cap, cur, rfl, hg, hc, hn, _⟩
  · exact .inl ⟨List.length_eq_zero_iff.1 h0, rfl⟩
  · refine .inr ⟨g, 0, cap, rfl, hg, hn, (Array.getElem?_eq_some_iff.1 hc).1, fun i hi => ?_⟩
    have := h.cells (g := g) rfl i (.int .i64 (xs.getD i 0)) (by simp [hi])
    rwa [show (⟨g, 0, none⟩ : Addr).add i = ⟨g, 0 + i, none⟩ by unfold Addr.add; split <;> simp_all] at this

set_option maxHeartbeats 2000000 in
theorem refSucc_any (b : Blk) (a : Option Addr) (c : Nat) (w : World) : Calls Try.prog 30 #[b.val a c] w (IntsNew b.succ w) := by
  unfold Blk.val
  go_enter Try.func30, Try.ntmps30
  go_wp2
  all_goals
    go_ret
    first
      | (have hu : b.succ = [b.to] := by simp_all [Blk.succ]
         rw [hu]
         exact ints_one)
      | (have hu : b.succ = [b.to, b.els] := by simp_all [Blk.succ]
         rw [hu]
         exact ints_two)
      | (have hu : b.succ = [] := by simp_all [Blk.succ]
         rw [hu]
         exact ints_none)

/-- the second half of the reference's Uses: out so far, then the second register -/
def refU (i : Ins) (bx b16 bY : Bool) : List Int := (if bx && b16 then [i.x] else []) ++ (if bY then [i.y] else [])
theorem refU_uses {i : Ins} (h0 : 0 ≤ i.op) : refU i (hasB (shapeOf i.op) 120 (shapeOf i.op).size) (i.op != 16) (hasB (shapeOf i.op) 121 (shapeOf i.op).size) = i.uses := by
  rw [shape_x h0, shape_y h0]
  unfold refU Ins.uses
  by_cases h3 : i.op = 3 ∨ i.op = 5 ∨ i.op = 7
  · have hA : (i.op = 2 ∨ i.op = 3 ∨ i.op = 4 ∨ i.op = 5 ∨ i.op = 6 ∨ i.op = 7 ∨ i.op = 8 ∨ i.op = 10 ∨ i.op = 16) := by omega
    have hB : ¬ (i.op = 2 ∨ i.op = 4 ∨ i.op = 6 ∨ i.op = 8 ∨ i.op = 10) := by omega
    have hC : (i.op != 16) = true := by simp; omega
    rw [decide_eq_true hA, decide_eq_true h3, hC, if_neg hB, if_pos h3]; rfl
  · by_cases h2 : i.op = 2 ∨ i.op = 4 ∨ i.op = 6 ∨ i.op = 8 ∨ i.op = 10
    · have hA : (i.op = 2 ∨ i.op = 3 ∨ i.op = 4 ∨ i.op = 5 ∨ i.op = 6 ∨ i.op = 7 ∨ i.op = 8 ∨ i.op = 10 ∨ i.op = 16) := by omega
      have hC : (i.op != 16) = true := by simp; omega
      rw [decide_eq_true hA, decide_eq_false h3, hC, if_pos h2]; rfl
    · by_cases h16 : i.op = 16
      · have hC : (i.op != 16) = false := by simp [h16]
        rw [decide_eq_false h3, hC, if_neg h2, if_neg h3, Bool.and_false]; rfl
      · have hA : ¬ (i.op = 2 ∨ i.op = 3 ∨ i.op = 4 ∨ i.op = 5 ∨ i.op = 6 ∨ i.op = 7 ∨ i.op = 8 ∨ i.op = 10 ∨ i.op = 16) := by omega
        rw [decide_eq_false hA, decide_eq_false h3, if_neg h2, if_neg h3]; rfl

theorem own_at_ge {g n c b base : Nat} (h : (Value.slice (some ⟨g, 0, none⟩) n c).ownBlock = some b) (hg : base ≤ g) : base ≤ b := by
  have : g = b := by simpa [Value.ownBlock] using h
  omega
theorem uses_grow {w W w6 : World} {v v' : Value} {xs : List Int} (ho : w6.ownsRow w.heap.size 3 1 v' xs.length (xs.map (Value.int .i64))) (hgr : W.grownBy w6 v.ownBlock) (hB : Below w.heap.size w W) (hv : ∀ b, v.ownBlock = some b → w.heap.size ≤ b) :
    IntsIn (fun k => w.heap.size ≤ k) w6 v' xs ∧ Below w.heap.size w w6 :=
  ⟨ints_of_row ho, hgr.os.trans hB.os, hgr.tape.trans hB.tape, hgr.output.trans hB.output, Nat.le_trans hB.size hgr.size, fun k hk => (hgr.block k (Nat.lt_of_lt_of_le hk hB.size) (fun e => by have := hv k e.symm; omega)).trans (hB.block k hk)⟩

set_option maxHeartbeats 4000000 in
theorem refUses_of (i : Ins) (w : World) (h0 : 0 ≤ i.op) (h1 : i.op ≤ 255) (bx b16 bY : Bool) (hx : hasB (shapeOf i.op) 120 (shapeOf i.op).size = bx) (h16 : (i.op != 16) = b16) (hy : hasB (shapeOf i.op) 121 (shapeOf i.op).size = bY) :
    Calls Try.prog 32 #[i.val] w (IntsNew (refU i bx b16 bY) w) := by
  obtain ⟨i0, hi, hz0, hz1, hz2⟩ := info_parts Try.infoInt
  have hsz := shape_size i.op
  have HX := Lib.hid hx
  have HY := Lib.hid hy
  clear hx hy
  unfold Ins.val
  go_enter Try.func32, Try.ntmps32
  go_wp2_with fail
  refine (shape_any i.op _ h0 h1).mono ?_
  rintro e w1 ⟨rfl, hB1⟩
  have HB1 := Lib.hid (((Below.refl w.heap.size w).alloc (Nat.le_refl _) _).trans (hB1.mono (by simp)))
  have hzw : w.heap.size < w1.heap.size := by have := hB1.size; simp at this; omega
  have c0 : w1.cell? ⟨w.heap.size, 0, none⟩ = some (.int .u8 i.op) := (hB1.cell (p := ⟨w.heap.size, 0, none⟩) (by simp)).trans (by simp)
  have c2 : w1.cell? ⟨w.heap.size, 2, none⟩ = some (.int .i64 i.x) := (hB1.cell (p := ⟨w.heap.size, 2, none⟩) (by simp)).trans (by simp)
  have c3 : w1.cell? ⟨w.heap.size, 3, none⟩ = some (.int .i64 i.y) := (hB1.cell (p := ⟨w.heap.size, 3, none⟩) (by simp)).trans (by simp)
  clear hB1
  go_wp2_with fail
  refine (has_any (shapeOf i.op) 120 _ (by omega)).mono ?_
  rintro e w2 ⟨he, rfl⟩
  rw [HX.out] at he
  subst he
  by_cases hxx : (bx && b16) = true
  · obtain ⟨rfl, rfl⟩ : bx = true ∧ b16 = true := by simpa using hxx
    clear hxx
    go_wp2_with (at_builtin; refine wpList_append_own_at _ rfl (.tmp 15) (.tmp 18) 61 rfl w.heap.size 3 i0 _ 1 8 Try.underlying61 hi hz0 hz1 hz2 rfl (by decide) (.slice none 0 0) 0 [] rfl ⟨rfl, .inl ⟨rfl, rfl⟩⟩ ⟨w1.heap.size, 0, none⟩ 1 1 [.int .i64 i.x] rfl rfl ?d1 ?d2 ?d3 ?d4 ?d5 ?_)
    case d1 =>
      intro j q hq
      match j, hq with
      | 0, hq => simp at hq; subst hq; exact World.cell?_alloc_new _ _ _ 0
      | j + 1, hq => simp at hq
    case d2 => intro q hq; simp at hq; subst hq; rfl
    case d3 => unfold maxLen; omega
    case d4 => omega
    case d5 => simp; omega
    intro v1 w3 ho hgr _ _
    have HN1 := Lib.hid (uses_grow (xs := [i.x]) (v := .slice none 0 0) ho hgr (HB1.out.alloc (by omega) _) (fun b hb => (by cases hb)))
    have d3 : w3.cell? ⟨w.heap.size, 3, none⟩ = some (.int .i64 i.y) := (World.cell?_of_block (a := ⟨w.heap.size, 3, none⟩) ((hgr.block w.heap.size (by simp; omega) (fun e => by cases e)).trans (Below.heap_alloc _ _ _ hzw))).trans c3
    have hz3 : w.heap.size < w3.heap.size := by have := hgr.size; simp at this; omega
    have HO := Lib.hid ho
    rcases ho.2 with ⟨_, h⟩ | ⟨g, cap, cur, rfl, hg, _⟩
    · omega
    clear ho hgr c0 c2 c3
    go_wp2_with fail
    refine (has_any (shapeOf i.op) 121 _ (by omega)).mono ?_
    rintro e w5 ⟨he, rfl⟩
    rw [HY.out] at he
    subst he
    cases bY with
    | false =>
      go_wp2_with fail
      go_ret
      exact ⟨_, rfl, HN1.out⟩
    | true =>
      go_wp2_with (at_builtin; refine wpList_append_own_at _ rfl (.tmp 22) (.tmp 25) 61 rfl w.heap.size 3 i0 _ 1 8 Try.underlying61 hi hz0 hz1 hz2 rfl (by decide) _ 1 [.int .i64 i.x] rfl (HO.out.alloc _) ⟨w3.heap.size, 0, none⟩ 1 1 [.int .i64 i.y] rfl rfl ?e1 ?e2 ?e3 ?e4 ?e5 ?_)
      case e1 =>
        intro j q hq
        match j, hq with
        | 0, hq => simp at hq; subst hq; exact World.cell?_alloc_new _ _ _ 0
        | j + 1, hq => simp at hq
      case e2 => intro q hq; simp at hq; subst hq; rfl
      case e3 => unfold maxLen; omega
      case e4 => omega
      case e5 => simp; omega
      intro v' w6 ho hgr _ _
      have HN := Lib.hid (uses_grow (xs := [i.x, i.y]) (v := .slice (some ⟨g, 0, none⟩) 1 cap) ho hgr (HN1.out.2.alloc (by omega) _) (fun b hb => own_at_ge hb hg))
      clear ho hgr
      go_wp2_with fail
      go_ret
      exact ⟨_, rfl, HN.out⟩
  · have hr : refU i bx b16 bY = (if bY then [i.y] else []) := by unfold refU; rw [if_neg hxx]; rfl
    rw [hr]
    clear hr
    cases bx with
    | false =>
      clear hxx
      go_wp2_with fail
      refine (has_any (shapeOf i.op) 121 _ (by omega)).mono ?_
      rintro e w5 ⟨he, rfl⟩
      rw [HY.out] at he
      subst he
      cases bY with
      | false =>
        go_wp2_with fail
        go_ret
        exact ⟨_, rfl, .inl ⟨rfl, rfl⟩, HB1.out⟩
      | true =>
        go_wp2_with (at_builtin; refine wpList_append_own_at _ rfl (.tmp 22) (.tmp 25) 61 rfl w.heap.size 3 i0 _ 1 8 Try.underlying61 hi hz0 hz1 hz2 rfl (by decide) (.slice none 0 0) 0 [] rfl ⟨rfl, .inl ⟨rfl, rfl⟩⟩ ⟨w1.heap.size, 0, none⟩ 1 1 [.int .i64 i.y] rfl rfl ?e1 ?e2 ?e3 ?e4 ?e5 ?_)
        case e1 =>
          intro j q hq
          match j, hq with
          | 0, hq => simp at hq; subst hq; exact World.cell?_alloc_new _ _ _ 0
          | j + 1, hq => simp at hq
        case e2 => intro q hq; simp at hq; subst hq; rfl
        case e3 => unfold maxLen; omega
        case e4 => omega
        case e5 => simp; omega
        intro v' w6 ho hgr _ _
        have HN := Lib.hid (uses_grow (xs := [i.y]) (v := .slice none 0 0) ho hgr (HB1.out.alloc (by omega) _) (fun b hb => (by cases hb)))
        clear ho hgr
        go_wp2_with fail
        go_ret
        exact ⟨_, rfl, HN.out⟩
    | true =>
      obtain rfl : b16 = false := by simpa using hxx
      clear hxx
      go_wp2_with fail
      refine (has_any (shapeOf i.op) 121 _ (by omega)).mono ?_
      rintro e w5 ⟨he, rfl⟩
      rw [HY.out] at he
      subst he
      cases bY with
      | false =>
        go_wp2_with fail
        go_ret
        exact ⟨_, rfl, .inl ⟨rfl, rfl⟩, HB1.out⟩
      | true =>
        go_wp2_with (at_builtin; refine wpList_append_own_at _ rfl (.tmp 22) (.tmp 25) 61 rfl w.heap.size 3 i0 _ 1 8 Try.underlying61 hi hz0 hz1 hz2 rfl (by decide) (.slice none 0 0) 0 [] rfl ⟨rfl, .inl ⟨rfl, rfl⟩⟩ ⟨w1.heap.size, 0, none⟩ 1 1 [.int .i64 i.y] rfl rfl ?e1 ?e2 ?e3 ?e4 ?e5 ?_)
        case e1 =>
          intro j q hq
          match j, hq with
          | 0, hq => simp at hq; subst hq; exact World.cell?_alloc_new _ _ _ 0
          | j + 1, hq => simp at hq
        case e2 => intro q hq; simp at hq; subst hq; rfl
        case e3 => unfold maxLen; omega
        case e4 => omega
        case e5 => simp; omega
        intro v' w6 ho hgr _ _
        have HN := Lib.hid (uses_grow (xs := [i.y]) (v := .slice none 0 0) ho hgr (HB1.out.alloc (by omega) _) (fun b hb => (by cases hb)))
        clear ho hgr
        go_wp2_with fail
        go_ret
        exact ⟨_, rfl, HN.out⟩

theorem refUses_any (i : Ins) (w : World) (h0 : 0 ≤ i.op) (h1 : i.op ≤ 255) : Calls Try.prog 32 #[i.val] w (IntsNew i.uses w) := by
  have := refUses_of i w h0 h1 _ _ _ rfl rfl rfl
  rwa [refU_uses h0] at this
end Go.Proofs.Ytjdfcpjlmfaaaaa
