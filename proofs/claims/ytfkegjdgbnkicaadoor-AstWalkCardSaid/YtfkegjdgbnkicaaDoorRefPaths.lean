/-
  Contract: the reference's Paths (package ontimeref12): the paths of a tree, in pre-order, in new memory.
-/
import Derived.Test.YtfkegjdgbnkicaaDoorPathRows
import Derived.Test.YtfkegjdgbnkicaaDoorAstAt
import Derived.Maps.AppendAt
import Derived.LoopTactic
import Derived.Outline
namespace Go.Proofs.YtfkegjdgbnkicaaDoor
open Go.RowKit
set_option maxRecDepth 100000

def PathsOk (t : Tree) (w : World) (e : Ending) (w' : World) : Prop :=
  ∃ v, e = .returned v ∧ PRow w.heap.size w' v (pathsOf t) ∧ Below w.heap.size w w'
/-- the state at the head of the outer loop -/
structure PathsSt (t : Tree) (a : Option Addr) (c : Nat) (w wr : World) (v : Value) (ps : List (List Int)) : Prop where
  row : PRow (w.heap.size + 1) wr v ps
  bel : Below (w.heap.size + 1) (w.alloc (boxObj t a c)) wr
/-- the state at the head of the inner loop: S is where the list lies that is read -/
structure PathsIn (t : Tree) (a : Option Addr) (c lo hi : Nat) (w wr : World) (v lv : Value) (ps ls : List (List Int)) : Prop where
  row : PRow (w.heap.size + 1) wr v ps
  bel : Below (w.heap.size + 1) (w.alloc (boxObj t a c)) wr
  sep : ∀ b, v.ownBlock = some b → ¬ (lo ≤ b ∧ b < hi)
  lst : LRow (fun k => lo ≤ k ∧ k < hi) wr lv ls
  size : hi ≤ wr.heap.size
theorem paths_start (t : Tree) (a : Option Addr) (c : Nat) (w : World) :
    PathsSt t a c w (((w.alloc (boxObj t a c)).alloc (.cells #[] 3)).alloc (.cells #[.slice (some ⟨w.heap.size + 1, 0, none⟩) 0 0] 34)) (.slice (some ⟨w.heap.size + 1 + 1, 0, none⟩) 1 1) (pathsTo t 0) := by
  have h0 : (((w.alloc (boxObj t a c)).alloc (.cells #[] 3)).alloc (.cells #[.slice (some ⟨w.heap.size + 1, 0, none⟩) 0 0] 34)).heap.size = w.heap.size + 1 + 1 + 1 := by simp
  have hsz : ((w.alloc (boxObj t a c)).alloc (.cells #[] 3)).heap.size = w.heap.size + 1 + 1 := by simp
  refine ⟨⟨[.slice (some ⟨w.heap.size + 1, 0, none⟩) 0 0], ?_, fun i p u hp hu => ?_⟩, ((Below.refl _ _).alloc (by simp) _).alloc (by simp) _⟩
  · have := World.ownsRow_lit (base := w.heap.size + 1) (e := 34) (size := 1) ((w.alloc (boxObj t a c)).alloc (.cells #[] 3)) #[.slice (some ⟨w.heap.size + 1, 0, none⟩) 0 0] 1 (by simp) (by unfold maxLen; omega) rfl
    rw [hsz] at this
    exact this
  · match i, hp, hu with
    | 0, hp, hu =>
      simp [pathsTo, concatTo] at hp
      simp at hu
      subst hp hu
      exact ⟨w.heap.size + 1, 0, 0, rfl, ⟨Nat.le_refl _, by simp [Value.ownBlock]⟩, Nat.le_refl _, by simp, fun i hi => by simp at hi⟩
    | i + 1, hp, hu => simp at hu
theorem paths_inner {t : Tree} {a : Option Addr} {c : Nat} {w wr w5 : World} {v lv : Value} {ps ls : List (List Int)} (h : PathsSt t a c w wr v ps) (hl : PRow wr.heap.size w5 lv ls) (hne : ls ≠ []) (hB : Below wr.heap.size wr w5) :
    PathsIn t a c wr.heap.size w5.heap.size w w5 v lv ps ls := by
  obtain ⟨vs, hr⟩ := h.row
  obtain ⟨us, hl⟩ := hl
  exact ⟨⟨vs, hr.below hB⟩, h.bel.trans (hB.mono (by have := h.bel.size; simpa using this)), fun b hb => by have := (prow_own_lt hr hb).2; omega, hl.read hne, Nat.le_refl _⟩
theorem paths_outer {t : Tree} {a : Option Addr} {c lo hi : Nat} {w wr : World} {v lv : Value} {ps ls : List (List Int)} (h : PathsIn t a c lo hi w wr v lv ps ls) : PathsSt t a c w wr v ps := ⟨h.row, h.bel⟩

theorem grown_below {base : Nat} {W w2 : World} {r : Option Nat} (h : W.grownBy w2 r) (hr : ∀ b, r = some b → base ≤ b) (hb : base ≤ W.heap.size) : Below base W w2 :=
  ⟨h.os, h.tape, h.output, h.size, fun k hk => h.block k (by omega) (fun e => by have := hr k e.symm; omega)⟩
/-- one path more -/
theorem paths_step {t : Tree} {a : Option Addr} {c lo hi : Nat} {w wk w1 w2 : World} {v lv v1 v2 : Value} {ps ls : List (List Int)} {vs : List Value} {j : Int} {p : List Int} (h : PathsIn t a c lo hi w wk v lv ps ls) (hv : PRowV (w.heap.size + 1) wk v ps vs)
    (h1 : w1.ownsRow wk.heap.size 3 1 v1 (1 + p.length) ([.int .i64 j] ++ ints p)) (hB1 : Below wk.heap.size wk w1)
    (h2 : w2.ownsRow (w.heap.size + 1) 34 1 v2 (ps.length + 1) (vs ++ [v1])) (hg2 : (w1.alloc (.cells #[v1] 34)).grownBy w2 v.ownBlock) (hpl : v2.ownBlock = v.ownBlock ∨ v2.ownBlock = some (w1.alloc (.cells #[v1] 34)).heap.size) :
    PathsIn t a c lo hi w w2 v2 lv (ps ++ [j :: p]) ls := by
  have hBW : Below wk.heap.size wk (w1.alloc (.cells #[v1] 34)) := hB1.alloc hB1.size _
  have hsz := hBW.size
  have hbase : w.heap.size + 1 ≤ wk.heap.size := by have := h.bel.size; simpa using this
  have hB2 : Below (w.heap.size + 1) (w1.alloc (.cells #[v1] 34)) w2 := grown_below hg2 (fun b hb => (prow_own_lt hv hb).1) (by omega)
  have hp1 : PathIn (fun k => w.heap.size + 1 ≤ k ∧ v.ownBlock ≠ some k) (w1.alloc (.cells #[v1] 34)) v1 (j :: p) := by
    rcases ownsRow_form h1 with ⟨_, h0⟩ | ⟨g, cap, rfl, hg, _, _⟩
    · omega
    · have hq : PathIn (fun k => wk.heap.size ≤ k) w1 (.slice (some ⟨g, 0, none⟩) (1 + p.length) cap) (j :: p) := pathIn_of_row h1 (by simp; omega)
      refine (hq.below ((Below.refl _ _).alloc (Nat.le_refl _) _)).move (Nat.le_refl _) (fun _ _ _ => rfl) (fun k hk _ => ⟨by omega, fun e => ?_⟩)
      have := (prow_own_lt hv e).2; omega
  refine ⟨⟨vs ++ [v1], (hv.below hBW).step hp1 h2 hg2 hpl⟩, h.bel.trans ((hBW.mono hbase).trans hB2), fun b hb => ?_, ?_, ?_⟩
  · rcases hpl with e | e
    · exact h.sep b (e.symm.trans hb)
    · rw [e] at hb
      have : (w1.alloc (.cells #[v1] 34)).heap.size = b := by simpa using hb
      have := h.size
      omega
  · refine h.lst.move (Nat.le_trans hsz hg2.size) (fun k hk hl => ?_) (fun _ hk _ => hk)
    exact (hg2.block k (by omega) (fun e => h.sep k e.symm hk)).trans (hBW.block k hl)
  · have := h.size; have := hg2.size; omega

set_option maxHeartbeats 4000000 in
theorem paths_any : ∀ (t : Tree) (w : World) (a : Option Addr) (c : Nat), Rep w t a → t.size ≤ 100000 → t.depth ≤ 10000 → Calls Tryd.prog 26 #[t.val a c] w (PathsOk t w) := by
  intro t
  induction t using Tree.ind with
  | h t ih =>
    intro w a c hr hs hd
    obtain ⟨i0, hi, hz0, hz1, hz2⟩ := info_parts Tryd.infoInt
    obtain ⟨j0, hj, hy0, hy1, hy2⟩ := info_parts Tryd.infoInts
    have HR := Lib.hid hr
    have IH := Lib.hid ih
    have HP0 := Lib.hid (paths_start t a c w)
    clear hr ih
    go_enter Tryd.func26, Tryd.ntmps26
    go_wp2_with fail
    go_loopw [3, 4] (fun v i wr => ∃ j : Nat, j ≤ t.len ∧ i = .int .i64 j ∧ PathsSt t a c w wr v (pathsTo t j)) (fun _ i _ => t.len - (intOf i).toNat)
    case atStart => exact ⟨0, Nat.zero_le _, rfl, HP0.out⟩
    case round =>
      obtain ⟨j, hjl, rfl, hst⟩ := hrel
      have HST := Lib.hid hst
      have hzr : w.heap.size < wr.heap.size := by have := hst.bel.size; simp at this; omega
      have HBOX : Hid (wr.heap[w.heap.size]? = some (boxObj t a c)) := (hst.bel.block _ (by omega)).trans (World.alloc_heap_new w _)
      obtain ⟨⟨b0, b1, b2, b3⟩, _⟩ := blk4 HBOX.out
      have hln := HR.out.fits.len
      clear hst
      by_cases hlt : j < t.len
      · rcases HR.out.kids with h0 | ⟨kb, ko, rfl, hc⟩
        · omega
        obtain ⟨ai, ci, hn, hrk⟩ := hc j hlt
        have HBW : Hid (Below w.heap.size w wr) := ((Below.refl _ _).alloc (Nat.le_refl _) _).trans (HST.out.bel.mono (by omega))
        obtain ⟨f0, f1, f2, f3⟩ := hn.below HBW.out hn.lt
        have HRK := Lib.hid (hrk.below HBW.out)
        clear hc hn hrk
        go_wp2_with fail
        refine (IH.out j hlt _ ai ci HRK.out (by have := Tree.size_kid hlt; omega) (by have := Tree.depth_kid hlt; omega)).mono ?_
        rintro e w5 ⟨lv, rfl, hl, hB5⟩
        have HIN := Lib.hid (paths_inner HST.out hl (pathsOf_ne _) hB5)
        obtain ⟨g, cap, rfl, hSg, hgl, _⟩ := HIN.out.lst
        obtain ⟨wo, rfl⟩ : ∃ wo : World, wo = wr := ⟨_, rfl⟩
        obtain ⟨ls, hls⟩ : ∃ ls, pathsOf (t.kid j) = ls := ⟨_, rfl⟩
        rw [hls] at HIN ⊢
        have HLS := Lib.hid hls
        have hmm : ls.length ≤ 100000 := by rw [← hls, pathsOf_len]; have := Tree.size_kid hlt; omega
        have HTO : Hid ((pathsTo t j).length + ls.length ≤ t.size) := by
          have := pathsTo_len_le t (j + 1) (by omega)
          rw [pathsTo_succ, List.length_append, List.length_map, hls] at this
          exact this
        have HDP : Hid (∀ p, p ∈ ls → p.length ≤ 10000) := fun p hp => by rw [← hls] at hp; have := pathsOf_depth hp; have := Tree.depth_kid hlt; omega
        clear hl hB5 f0 f1 f2 f3 b0 b1 b2 b3 hls hSg hgl
        go_wp2_with fail
        go_loopw [3, 6] (fun v k wk => ∃ q : Nat, q ≤ ls.length ∧ k = .int .i64 q ∧ PathsIn t (some ⟨kb, ko, none⟩) c wo.heap.size w5.heap.size w wk v (.slice (some ⟨g, 0, none⟩) ls.length cap) (pathsTo t j ++ (ls.take q).map ((j : Int) :: ·)) ls) (fun _ k _ => ls.length - (intOf k).toNat)
        case atStart => exact ⟨0, Nat.zero_le _, rfl, by simpa using HIN.out⟩
        case round =>
          obtain ⟨q, hq, rfl, hin⟩ := hrel
          have HIQ := Lib.hid hin
          clear hin
          by_cases hlq : q < ls.length
          · obtain ⟨p, hp⟩ : ∃ p, ls[q]? = some p := ⟨_, List.getElem?_eq_getElem hlq⟩
            obtain ⟨g', cap', hgg, hSg, hgl, hk⟩ := HIQ.out.lst
            cases hgg
            obtain ⟨u, hu, pb, po, pc, rfl, hSp, hpc, hpb, hpk⟩ := hk q p hp
            have hpl := HDP.out p (List.mem_of_getElem? hp)
            obtain ⟨vs, hvs⟩ := HIQ.out.row
            have HVS := Lib.hid hvs
            have hpsl : (pathsTo t j ++ (ls.take q).map ((j : Int) :: ·)).length + 1 ≤ 100001 := by have := HTO.out; rw [List.length_append, List.length_map, List.length_take]; omega
            obtain ⟨ps, hps⟩ : ∃ ps, pathsTo t j ++ (ls.take q).map ((j : Int) :: ·) = ps := ⟨_, rfl⟩
            have HPS : Hid (pathsTo t j ++ (ls.take (q + 1)).map ((j : Int) :: ·) = ps ++ [(j : Int) :: p]) := by
              show _ = _
              rw [List.take_add_one, hp, ← hps]
              simp
            rw [hps] at hpsl HVS HIQ
            have HC1 : Hid (∀ i x, (ints p)[i]? = some x → (wr.alloc (.cells #[.int .i64 (j : Int)] 3)).cell? ((⟨pb, po, none⟩ : Addr).add i) = some x) := by
              intro i x hx
              have hi : i < p.length := by have := (List.getElem?_eq_some_iff.1 hx).1; rwa [ints_len] at this
              rw [ints_at p i hi] at hx; cases hx
              rw [show (⟨pb, po, none⟩ : Addr).add i = ⟨pb, po + i, none⟩ by unfold Addr.add; split <;> simp_all]
              exact (World.cell?_alloc_lt _ _ _ hpb).trans (hpk i hi)
            have HOWN1 : Hid ((wr.alloc (.cells #[.int .i64 (j : Int)] 3)).ownsRow wr.heap.size 3 1 (.slice (some ⟨wr.heap.size, 0, none⟩) 1 1) 1 [.int .i64 (j : Int)]) := World.ownsRow_lit wr #[.int .i64 (j : Int)] 1 (Nat.le_refl _) (by unfold maxLen; omega) rfl
            have hq0 : (0 : Int) ≤ (q : Int) := by omega
            have hq1 : (q : Int) < (ls.length : Int) := by omega
            have hgr : g < wr.heap.size + 1 := by omega
            clear hk hpk hvs hps hp
            go_wp2_with (at_builtin; refine wpList_append_own_at _ rfl (.tmp 30) (.tmp 34) 34 rfl wr.heap.size 3 i0 _ 1 8 Tryd.underlying34 hi hz0 hz1 hz2 rfl (by decide) _ 1 _ rfl HOWN1.out ⟨pb, po, none⟩ p.length pc (ints p) rfl ?c1 HC1.out (ints_one p) ?c3 ?c4 ?c5 ?_)
            case c1 => rw [ints_len]; omega
            case c3 => unfold maxLen; omega
            case c4 => omega
            case c5 => simp
            intro v1 w1 hown1 hgrow1 _ _
            have hB1 : Below wr.heap.size wr w1 := by
              refine ((Below.refl _ _).alloc (Nat.le_refl _) _).trans (grown_below hgrow1 (fun b hb => ?_) (by simp))
              have : wr.heap.size = b := by simpa [Value.ownBlock] using hb
              omega
            rcases ownsRow_form hown1 with ⟨_, h0⟩ | ⟨g1, cap1, rfl, hg1, hg1l, _⟩
            · omega
            have HVS2 := Lib.hid (HVS.out.below (hB1.alloc hB1.size (.cells #[.slice (some ⟨g1, 0, none⟩) (1 + p.length) cap1] 34)))
            have HOWN2 := Lib.hid hown1
            have HB1 := Lib.hid hB1
            have hz1 : wr.heap.size ≤ w1.heap.size := hB1.size
            have hzb : w.heap.size + 1 ≤ wr.heap.size := by have := HIQ.out.bel.size; simpa using this
            clear hown1 hgrow1 hB1
            go_wp2_with (at_builtin; refine wpList_append_own_at _ rfl (.tmp 28) (.tmp 36) 29 rfl (w.heap.size + 1) 34 j0 _ 1 24 Tryd.underlying29 hj hy0 hy1 hy2 rfl (by decide) _ ps.length vs rfl HVS2.out.own ⟨w1.heap.size, 0, none⟩ 1 1 [.slice (some ⟨g1, 0, none⟩) (1 + p.length) cap1] rfl rfl ?d1 ?d2 ?d3 ?d4 ?d5 ?_)
            case d1 =>
              intro i x hx
              match i, hx with
              | 0, hx => simp at hx; subst hx; exact World.cell?_alloc_new _ _ _ 0
              | i + 1, hx => simp at hx
            case d2 => intro x hx; simp at hx; subst hx; rfl
            case d3 => unfold maxLen; omega
            case d4 => omega
            case d5 => simp; omega
            intro v2 w2 hown2 hgrow2 _ hpl2
            have HN := Lib.hid (paths_step HIQ.out HVS.out HOWN2.out HB1.out hown2 hgrow2 (by simpa using hpl2))
            clear hown2 hgrow2 hpl2
            go_wp2_with fail
            go_roundw
            case rel => exact ⟨q + 1, by omega, by go_num, by rw [HPS.out]; exact HN.out⟩
            case measure => simp [intOf]; omega
          · obtain rfl : q = ls.length := by omega
            have HN : Hid (PathsSt t (some ⟨kb, ko, none⟩) c w wr u3 (pathsTo t (j + 1))) := by
              have := paths_outer HIQ.out
              rw [List.take_length] at this
              rw [pathsTo_succ, HLS.out]
              exact this
            go_wp2_with fail
            exact ⟨⟨j + 1, by omega, by go_num, HN.out⟩, by simp [intOf]; omega⟩
      · obtain rfl : j = t.len := by omega
        go_wp2_with fail
        obtain ⟨vs, hv⟩ := HST.out.row
        go_ret
        refine ⟨_, rfl, ⟨vs, ?_⟩, ((Below.refl _ _).alloc (Nat.le_refl _) _).trans (HST.out.bel.mono (by omega))⟩
        rw [pathsOf_eq]
        exact hv.base (by omega)
end Go.Proofs.YtfkegjdgbnkicaaDoor
