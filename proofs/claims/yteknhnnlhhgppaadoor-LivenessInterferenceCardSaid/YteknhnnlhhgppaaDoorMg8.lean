/-
  Mg8: several texts in one (Ref17Uses, StepAppend).
-/
import Derived.Test.YteknhnnlhhgppaaDoorMg0
import Derived.Maps.AppendAt
import Derived.Laws.OwnMore
import Derived.Test.YteknhnnlhhgppaaDoorMg4
import Derived.Deep.RegionLawGrows
/-
  Contracts: Uses, Succ (package ontimeref17).
-/
namespace Go.Proofs.YteknhnnlhhgppaaDoor
set_option linter.unusedVariables false
set_option linter.unusedSimpArgs false
open Go.RowKit
set_option maxRecDepth 100000

theorem Tryd.infoInt : (Tryd.prog.info? 3).map (fun i => (i.zero, i.size, i.bytes)) = some (some (.int .i64 0), 1, 8) := by kernel_rfl
theorem shape_x {op : Int} (h0 : 0 ≤ op) : hasB (shapeOf op) 120 (shapeOf op).size = decide (op = 2 ∨ op = 3 ∨ op = 4 ∨ op = 5 ∨ op = 6 ∨ op = 7 ∨ op = 8 ∨ op = 10 ∨ op = 16) := by
  by_cases h : 17 ≤ op
  · rw [shape_none h]
    have : ¬ (op = 2 ∨ op = 3 ∨ op = 4 ∨ op = 5 ∨ op = 6 ∨ op = 7 ∨ op = 8 ∨ op = 10 ∨ op = 16) := by omega
    rw [decide_eq_false this]; rfl
  · obtain ⟨k, rfl⟩ := Int.eq_ofNat_of_zero_le h0
    have hk : k < 17 := by omega
    have all : ∀ k : Fin 17, hasB (shapeOf (k.1 : Int)) 120 (shapeOf (k.1 : Int)).size = decide ((k.1 : Int) = 2 ∨ (k.1 : Int) = 3 ∨ (k.1 : Int) = 4 ∨ (k.1 : Int) = 5 ∨ (k.1 : Int) = 6 ∨ (k.1 : Int) = 7 ∨ (k.1 : Int) = 8 ∨ (k.1 : Int) = 10 ∨ (k.1 : Int) = 16) := by decide
    exact all ⟨k, hk⟩
theorem shape_y {op : Int} (h0 : 0 ≤ op) : hasB (shapeOf op) 121 (shapeOf op).size = decide (op = 3 ∨ op = 5 ∨ op = 7) := by
  by_cases h : 17 ≤ op
  · rw [shape_none h]
    have : ¬ (op = 3 ∨ op = 5 ∨ op = 7) := by omega
    rw [decide_eq_false this]; rfl
  · obtain ⟨k, rfl⟩ := Int.eq_ofNat_of_zero_le h0
    have hk : k < 17 := by omega
    have all : ∀ k : Fin 17, hasB (shapeOf (k.1 : Int)) 121 (shapeOf (k.1 : Int)).size = decide ((k.1 : Int) = 3 ∨ (k.1 : Int) = 5 ∨ (k.1 : Int) = 7) := by decide
    exact all ⟨k, hk⟩

/-- an owned row of ints is a slice of ints -/
theorem ints_of_row {w : World} {base : Nat} {v : Value} {xs : List Int} (h : w.ownsRow base 3 1 v xs.length (xs.map (Value.int .i64))) : IntsIn (fun k => base ≤ k) w v xs := by
  rcases h.2 with ⟨rfl, h0⟩ | ⟨g, cap, cur, rfl, hg, hc, hn, _⟩
  · exact .inl ⟨List.length_eq_zero_iff.1 h0, rfl⟩
  · refine .inr ⟨g, 0, cap, rfl, hg, hn, (Array.getElem?_eq_some_iff.1 hc).1, fun i hi => ?_⟩
    have := h.cells (g := g) rfl i (.int .i64 (xs.getD i 0)) (by simp [hi])
    rwa [show (⟨g, 0, none⟩ : Addr).add i = ⟨g, 0 + i, none⟩ by unfold Addr.add; split <;> simp_all] at this

set_option maxHeartbeats 2000000 in
theorem refSucc_any (b : Blk) (a : Option Addr) (c : Nat) (w : World) : Calls Tryd.prog 44 #[b.val a c] w (IntsNew b.succ w) := by
  unfold Blk.val
  go_enter Tryd.func44, Tryd.ntmps44
  go_wp2
  all_goals
    go_ret
    first
      | (have hu : b.succ = [b.to] := by simp_all [Blk.succ]
         rw [hu]
         exact ints_one)
      | (have hu : b.succ = [b.to, b.els] := by simp_all [Blk.succ]
         rw [hu]
         exact ints_two)
      | (have hu : b.succ = [] := by simp_all [Blk.succ]
         rw [hu]
         exact ints_none)

/-- the second half of the reference's Uses: out so far, then the second register -/
def refU (i : Ins) (bx b16 bY : Bool) : List Int := (if bx && b16 then [i.x] else []) ++ (if bY then [i.y] else [])
theorem refU_uses {i : Ins} (h0 : 0 ≤ i.op) : refU i (hasB (shapeOf i.op) 120 (shapeOf i.op).size) (i.op != 16) (hasB (shapeOf i.op) 121 (shapeOf i.op).size) = i.uses := by
  rw [shape_x h0, shape_y h0]
  unfold refU Ins.uses
  by_cases h3 : i.op = 3 ∨ i.op = 5 ∨ i.op = 7
  · have hA : (i.op = 2 ∨ i.op = 3 ∨ i.op = 4 ∨ i.op = 5 ∨ i.op = 6 ∨ i.op = 7 ∨ i.op = 8 ∨ i.op = 10 ∨ i.op = 16) := by omega
    have hB : ¬ (i.op = 2 ∨ i.op = 4 ∨ i.op = 6 ∨ i.op = 8 ∨ i.op = 10) := by omega
    have hC : (i.op != 16) = true := by simp; omega
    rw [decide_eq_true hA, decide_eq_true h3, hC, if_neg hB, if_pos h3]; rfl
  · by_cases h2 : i.op = 2 ∨ i.op = 4 ∨ i.op = 6 ∨ i.op = 8 ∨ i.op = 10
    · have hA : (i.op = 2 ∨ i.op = 3 ∨ i.op = 4 ∨ i.op = 5 ∨ i.op = 6 ∨ i.op = 7 ∨ i.op = 8 ∨ i.op = 10 ∨ i.op = 16) := by omega
      have hC : (i.op != 16) = true := by simp; omega
      rw [decide_eq_true hA, decide_eq_false h3, hC, if_pos h2]; rfl
    · by_cases h16 : i.op = 16
      · have hC : (i.op != 16) = false := by simp [h16]
        rw [decide_eq_false h3, hC, if_neg h2, if_neg h3, Bool.and_false]; rfl
      · have hA : ¬ (i.op = 2 ∨ i.op = 3 ∨ i.op = 4 ∨ i.op = 5 ∨ i.op = 6 ∨ i.op = 7 ∨ i.op = 8 ∨ i.op = 10 ∨ i.op = 16) := by omega
        rw [decide_eq_false hA, decide_eq_false h3, if_neg h2, if_neg h3]; rfl

theorem own_at_ge {g n c b base : Nat} (h : (Value.slice (some ⟨g, 0, none⟩) n c).ownBlock = some b) (hg : base ≤ g) : base ≤ b := by
  have : g = b := by simpa [Value.ownBlock] using h
  omega
theorem uses_grow {w W w6 : World} {v v' : Value} {xs : List Int} (ho : w6.ownsRow w.heap.size 3 1 v' xs.length (xs.map (Value.int .i64))) (hgr : W.grownBy w6 v.ownBlock) (hB : Below w.heap.size w W) (hv : ∀ b, v.ownBlock = some b → w.heap.size ≤ b) :
    IntsIn (fun k => w.heap.size ≤ k) w6 v' xs ∧ Below w.heap.size w w6 :=
  ⟨ints_of_row ho, hgr.os.trans hB.os, hgr.tape.trans hB.tape, hgr.output.trans hB.output, Nat.le_trans hB.size hgr.size, fun k hk => (hgr.block k (Nat.lt_of_lt_of_le hk hB.size) (fun e => by have := hv k e.symm; omega)).trans (hB.block k hk)⟩

set_option maxHeartbeats 4000000 in
theorem refUses_of (i : Ins) (w : World) (h0 : 0 ≤ i.op) (h1 : i.op ≤ 255) (bx b16 bY : Bool) (hx : hasB (shapeOf i.op) 120 (shapeOf i.op).size = bx) (h16 : (i.op != 16) = b16) (hy : hasB (shapeOf i.op) 121 (shapeOf i.op).size = bY) :
    Calls Tryd.prog 77 #[i.val] w (IntsNew (refU i bx b16 bY) w) := by
  obtain ⟨i0, hi, hz0, hz1, hz2⟩ := info_parts Tryd.infoInt
  have hsz := shape_size i.op
  have HX := Lib.hid hx
  have HY := Lib.hid hy
  clear hx hy
  unfold Ins.val
  go_enter Tryd.func77, Tryd.ntmps77
  go_wp2_with fail
  refine (shape_any i.op _ h0 h1).mono ?_
  rintro e w1 ⟨rfl, hB1⟩
  have HB1 := Lib.hid (((Below.refl w.heap.size w).alloc (Nat.le_refl _) _).trans (hB1.mono (by simp)))
  have hzw : w.heap.size < w1.heap.size := by have := hB1.size; simp at this; omega
  have c0 : w1.cell? ⟨w.heap.size, 0, none⟩ = some (.int .u8 i.op) := (hB1.cell (p := ⟨w.heap.size, 0, none⟩) (by simp)).trans (by simp)
  have c2 : w1.cell? ⟨w.heap.size, 2, none⟩ = some (.int .i64 i.x) := (hB1.cell (p := ⟨w.heap.size, 2, none⟩) (by simp)).trans (by simp)
  have c3 : w1.cell? ⟨w.heap.size, 3, none⟩ = some (.int .i64 i.y) := (hB1.cell (p := ⟨w.heap.size, 3, none⟩) (by simp)).trans (by simp)
  clear hB1
  go_wp2_with fail
  refine (has_any (shapeOf i.op) 120 _ (by omega)).mono ?_
  rintro e w2 ⟨he, rfl⟩
  rw [HX.out] at he
  subst he
  by_cases hxx : (bx && b16) = true
  · obtain ⟨rfl, rfl⟩ : bx = true ∧ b16 = true := by simpa using hxx
    clear hxx
    go_wp2_with (at_builtin; refine wpList_append_own_at _ rfl (.tmp 15) (.tmp 18) 39 rfl w.heap.size 3 i0 _ 1 8 Tryd.underlying39 hi hz0 hz1 hz2 rfl (by decide) (.slice none 0 0) 0 [] rfl ⟨rfl, .inl ⟨rfl, rfl⟩⟩ ⟨w1.heap.size, 0, none⟩ 1 1 [.int .i64 i.x] rfl rfl ?d1 ?d2 ?d3 ?d4 ?d5 ?_)
    case d1 =>
      intro j q hq
      match j, hq with
      | 0, hq => simp at hq; subst hq; exact World.cell?_alloc_new _ _ _ 0
      | j + 1, hq => simp at hq
    case d2 => intro q hq; simp at hq; subst hq; rfl
    case d3 => unfold maxLen; omega
    case d4 => omega
    case d5 => simp; omega
    intro v1 w3 ho hgr _ _
    have HN1 := Lib.hid (uses_grow (xs := [i.x]) (v := .slice none 0 0) ho hgr (HB1.out.alloc (by omega) _) (fun b hb => (by cases hb)))
    have d3 : w3.cell? ⟨w.heap.size, 3, none⟩ = some (.int .i64 i.y) := (World.cell?_of_block (a := ⟨w.heap.size, 3, none⟩) ((hgr.block w.heap.size (by simp; omega) (fun e => by cases e)).trans (Below.heap_alloc _ _ _ hzw))).trans c3
    have hz3 : w.heap.size < w3.heap.size := by have := hgr.size; simp at this; omega
    have HO := Lib.hid ho
    rcases ho.2 with ⟨_, h⟩ | ⟨g, cap, cur, rfl, hg, _⟩
    · omega
    clear ho hgr c0 c2 c3
    go_wp2_with fail
    refine (has_any (shapeOf i.op) 121 _ (by omega)).mono ?_
    rintro e w5 ⟨he, rfl⟩
    rw [HY.out] at he
    subst he
    cases bY with
    | false =>
      go_wp2_with fail
      go_ret
      exact ⟨_, rfl, HN1.out⟩
    | true =>
      go_wp2_with (at_builtin; refine wpList_append_own_at _ rfl (.tmp 22) (.tmp 25) 39 rfl w.heap.size 3 i0 _ 1 8 Tryd.underlying39 hi hz0 hz1 hz2 rfl (by decide) _ 1 [.int .i64 i.x] rfl (HO.out.alloc _) ⟨w3.heap.size, 0, none⟩ 1 1 [.int .i64 i.y] rfl rfl ?e1 ?e2 ?e3 ?e4 ?e5 ?_)
      case e1 =>
        intro j q hq
        match j, hq with
        | 0, hq => simp at hq; subst hq; exact World.cell?_alloc_new _ _ _ 0
        | j + 1, hq => simp at hq
      case e2 => intro q hq; simp at hq; subst hq; rfl
      case e3 => unfold maxLen; omega
      case e4 => omega
      case e5 => simp; omega
      intro v' w6 ho hgr _ _
      have HN := Lib.hid (uses_grow (xs := [i.x, i.y]) (v := .slice (some ⟨g, 0, none⟩) 1 cap) ho hgr (HN1.out.2.alloc (by omega) _) (fun b hb => own_at_ge hb hg))
      clear ho hgr
      go_wp2_with fail
      go_ret
      exact ⟨_, rfl, HN.out⟩
  · have hr : refU i bx b16 bY = (if bY then [i.y] else []) := by unfold refU; rw [if_neg hxx]; rfl
    rw [hr]
    clear hr
    cases bx with
    | false =>
      clear hxx
      go_wp2_with fail
      refine (has_any (shapeOf i.op) 121 _ (by omega)).mono ?_
      rintro e w5 ⟨he, rfl⟩
      rw [HY.out] at he
      subst he
      cases bY with
      | false =>
        go_wp2_with fail
        go_ret
        exact ⟨_, rfl, .inl ⟨rfl, rfl⟩, HB1.out⟩
      | true =>
        go_wp2_with (at_builtin; refine wpList_append_own_at _ rfl (.tmp 22) (.tmp 25) 39 rfl w.heap.size 3 i0 _ 1 8 Tryd.underlying39 hi hz0 hz1 hz2 rfl (by decide) (.slice none 0 0) 0 [] rfl ⟨rfl, .inl ⟨rfl, rfl⟩⟩ ⟨w1.heap.size, 0, none⟩ 1 1 [.int .i64 i.y] rfl rfl ?e1 ?e2 ?e3 ?e4 ?e5 ?_)
        case e1 =>
          intro j q hq
          match j, hq with
          | 0, hq => simp at hq; subst hq; exact World.cell?_alloc_new _ _ _ 0
          | j + 1, hq => simp at hq
        case e2 => intro q hq; simp at hq; subst hq; rfl
        case e3 => unfold maxLen; omega
        case e4 => omega
        case e5 => simp; omega
        intro v' w6 ho hgr _ _
        have HN := Lib.hid (uses_grow (xs := [i.y]) (v := .slice none 0 0) ho hgr (HB1.out.alloc (by omega) _) (fun b hb => (by cases hb)))
        clear ho hgr
        go_wp2_with fail
        go_ret
        exact ⟨_, rfl, HN.out⟩
    | true =>
      obtain rfl : b16 = false := by simpa using hxx
      clear hxx
      go_wp2_with fail
      refine (has_any (shapeOf i.op) 121 _ (by omega)).mono ?_
      rintro e w5 ⟨he, rfl⟩
      rw [HY.out] at he
      subst he
      cases bY with
      | false =>
        go_wp2_with fail
        go_ret
        exact ⟨_, rfl, .inl ⟨rfl, rfl⟩, HB1.out⟩
      | true =>
        go_wp2_with (at_builtin; refine wpList_append_own_at _ rfl (.tmp 22) (.tmp 25) 39 rfl w.heap.size 3 i0 _ 1 8 Tryd.underlying39 hi hz0 hz1 hz2 rfl (by decide) (.slice none 0 0) 0 [] rfl ⟨rfl, .inl ⟨rfl, rfl⟩⟩ ⟨w1.heap.size, 0, none⟩ 1 1 [.int .i64 i.y] rfl rfl ?e1 ?e2 ?e3 ?e4 ?e5 ?_)
        case e1 =>
          intro j q hq
          match j, hq with
          | 0, hq => simp at hq; subst hq; exact World.cell?_alloc_new _ _ _ 0
          | j + 1, hq => simp at hq
        case e2 => intro q hq; simp at hq; subst hq; rfl
        case e3 => unfold maxLen; omega
        case e4 => omega
        case e5 => simp; omega
        intro v' w6 ho hgr _ _
        have HN := Lib.hid (uses_grow (xs := [i.y]) (v := .slice none 0 0) ho hgr (HB1.out.alloc (by omega) _) (fun b hb => (by cases hb)))
        clear ho hgr
        go_wp2_with fail
        go_ret
        exact ⟨_, rfl, HN.out⟩

theorem refUses_any (i : Ins) (w : World) (h0 : 0 ≤ i.op) (h1 : i.op ≤ 255) : Calls Tryd.prog 77 #[i.val] w (IntsNew i.uses w) := by
  have := refUses_of i w h0 h1 _ _ _ rfl rfl rfl
  rwa [refU_uses h0] at this
end Go.Proofs.YteknhnnlhhgppaaDoor

/-
  The law for append on a row of the call's own, as one step of a region that draws its order. No program is named here.
-/
namespace Go.Proofs.YteknhnnlhhgppaaDoor
set_option linter.unusedVariables false
set_option linter.unusedSimpArgs false
open Go.RowKit

/-- append to a nil slice or a row of the call's own: the new row lies where the old one lay, or in a new block -/
theorem step_append_row {P : Program} {ops : Array Oper} {o : Oper} {a : Act} {w : World} {K : Act → World → Prop} {Q : Exit → Act → World → Prop} {E : Prop}
    (hg : o.guard = none) (s x : Operand) (t : TypeId) (hop : o.op = Op.call { callee := Callee.builtin Builtin.append, args := #[s, x], argTypes := #[t, t] })
    (base : Nat) (e : TypeId) (i : TypeInfo) (z : Value) (size bytes : Nat) (h1 : P.underlying t = some (.slice e)) (h2 : P.info? e = some i) (h3 : i.zero = some z) (h4 : i.size = size) (h5 : i.bytes = bytes) (h6 : z.cells.size = size) (h7 : 0 < size)
    (v : Value) (n : Nat) (xs : List Value) (hs : a.eval s = v) (hown : w.ownsRow base e size v n xs)
    (ad : Addr) (m c : Nat) (news : List Value) (hx : a.eval x = .slice (some ad) m c) (hn : news.length = m * size) (hc : ∀ j u, news[j]? = some u → w.cell? (ad.add j) = some u) (h1c : ∀ u ∈ news, u.oneCell' = true)
    (hm : 0 < m) (b1 : n + m ≤ maxLen) (b2 : (n + m) * bytes ≤ 140737488355328) (hbase : base ≤ w.heap.size)
    (hK : ∀ g cap w', w'.ownsRow base e size (.slice (some ⟨g, 0, none⟩) (n + m) cap) (n + m) (xs ++ news) → w.grownBy w' v.ownBlock → (v.ownBlock = some g ∨ w.heap.size ≤ g) → K (a.put o.dst (.slice (some ⟨g, 0, none⟩) (n + m) cap)) w') :
    if Region.wanted o (yielded ops a.tmps) = true then Oper.wp P o a w K Q else E := by
  have out : ∀ v' w', w'.ownsRow w.heap.size e size v' (n + m) (xs ++ news) → w.grownBy w' none → K (a.put o.dst v') w' := by
    intro v' w' r1 r2
    rcases ownsRow_form r1 with ⟨_, h0⟩ | ⟨g', cap', rfl, hg', _, _⟩
    · omega
    · exact hK g' cap' w' (ownsRow_base r1 hbase) (grown_any r2) (.inr hg')
  rcases ownsRow_form hown with ⟨rfl, rfl⟩ | ⟨g, cap, rfl, hgb, hgl, hcap⟩
  · have hx0 : xs = [] := List.length_eq_zero_iff.1 (by rw [hown.1]; omega)
    exact step_append_grows hg s x t hop e i z size bytes h1 h2 h3 h4 h5 h6 h7 none 0 0 xs hs (fun _ => ⟨rfl, rfl⟩) (by rw [hx0]; simp) (fun b h => by cases h) ad m c news hx hn hc h1c (by omega) b1 b2 out
  · by_cases hf : n + m ≤ cap
    · have hw : Region.wanted o (yielded ops a.tmps) = true := by simp [Region.wanted, hg]
      rw [if_pos hw]
      obtain ⟨w', hrun, r1, r2⟩ := run_append_fits (P := P) w base t o.type e i size h1 h2 h4 g n cap xs hown ad m c news hn hc h1c hf
      unfold Oper.wp
      simp [execOp, hop, resolve, invoke, builtin, hs, hx, hrun, Result.andThen]
      exact hK g cap w' r1 r2 (.inl rfl)
    · refine step_append_grows hg s x t hop e i z size bytes h1 h2 h3 h4 h5 h6 h7 (some ⟨g, 0, none⟩) n cap xs hs (fun h => by cases h) hown.1 (fun b hb j u hu => ?_) ad m c news hx hn hc h1c (by omega) b1 b2 out
      cases hb
      exact hown.cells rfl j u hu
end Go.Proofs.YteknhnnlhhgppaaDoor
