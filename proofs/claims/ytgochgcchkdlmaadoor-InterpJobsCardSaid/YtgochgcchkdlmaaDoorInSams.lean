/-
  InSams: several texts in one (InSamP, InSam).
-/
import Derived.Test.YtgochgcchkdlmaaDoorPuts
import Derived.Test.YtgochgcchkdlmaaDoorInJobs
/-
  The example of the chapter (package ontimelaw16), plainly.
-/
namespace Go.Proofs.YtgochgcchkdlmaaDoor
set_option linter.unusedVariables false
set_option linter.unusedSimpArgs false
open Go.RowKit Go.Maps
set_option maxRecDepth 100000
set_option maxHeartbeats 8000000

abbrev sI : ByteArray := ⟨#[105]⟩
abbrev sX : ByteArray := ⟨#[120]⟩
abbrev sA : ByteArray := ⟨#[97]⟩
abbrev sTa : ByteArray := ⟨#[116, 97]⟩
abbrev sE : ByteArray := ⟨#[]⟩
def tV (s : ByteArray) : Tree := .node 2 0 s 0 (fun i => i.elim0)
def t1 (k n : Int) (s : ByteArray) (x : Tree) : Tree := .node k n s 1 (fun _ => x)
def t2 (k n : Int) (s : ByteArray) (x y : Tree) : Tree := .node k n s 2 (fun i => if i.val = 0 then x else y)
def tItem : Tree := t1 3 0 sA (tV sI)
def tSet : Tree := t2 40 0 sE tItem (tV sX)
def tAdd : Tree := t2 40 0 sE (tV sX) (t2 6 0 sE (tV sX) (tV sI))
def tBlk : Tree := t2 47 0 sE tSet tAdd
def tLoop : Tree := t1 42 3 sI tBlk
def tOut : Tree := t1 45 1 sE (tV sX)
def tBody : Tree := t2 47 0 sE tLoop tOut
def samT : Tsk := { Tsk.none with name := sTa, period := 5, vars := [sX], arrays := [⟨sA, 3⟩], body := tBody }
def samP : Prg := ⟨[], [samT]⟩
def samM : Mem := ⟨[[[0, 0, 0]]], []⟩
theorem sam_11 : (jobP samP 0 samM [] 11).err = 0 ∧ (jobP samP 0 samM [] 11).st = 11 ∧ (jobP samP 0 samM [] 11).out = [(1, 3)] := ⟨by kernel_rfl, by kernel_rfl, by kernel_rfl⟩
theorem sam_10 : (jobP samP 0 samM [] 10).err = 13 ∧ (jobP samP 0 samM [] 10).st = 10 ∧ (jobP samP 0 samM [] 10).out = [] := ⟨by kernel_rfl, by kernel_rfl, by kernel_rfl⟩
theorem t1_in {w : World} {b c0 : Nat} {kk n : Int} {s : ByteArray} {x : Tree} {a0 : Option Addr} {T : TypeId} (h : w.heap[b]? = some (.cells #[.int .u8 x.kind, .int .i64 x.num, .string x.name, .slice a0 x.len c0] T)) (hx : Rep w x a0) (hf : (t1 kk n s x).Fits) : Rep w (t1 kk n s x) (some ⟨b, 0, none⟩) := by
  refine ⟨hf, .inr ⟨b, 0, rfl, fun i hi => ?_⟩⟩
  have : i = 0 := by omega
  subst this
  exact ⟨a0, c0, ⟨mem_cell h 0, mem_cell h 1, mem_cell h 2, mem_cell h 3⟩, hx⟩
theorem t2_in {w : World} {b c0 c1 : Nat} {kk n : Int} {s : ByteArray} {x y : Tree} {a0 a1 : Option Addr} {T : TypeId} (h : w.heap[b]? = some (.cells #[.int .u8 x.kind, .int .i64 x.num, .string x.name, .slice a0 x.len c0, .int .u8 y.kind, .int .i64 y.num, .string y.name, .slice a1 y.len c1] T)) (hx : Rep w x a0) (hy : Rep w y a1) (hf : (t2 kk n s x y).Fits) : Rep w (t2 kk n s x y) (some ⟨b, 0, none⟩) := by
  refine ⟨hf, .inr ⟨b, 0, rfl, fun i hi => ?_⟩⟩
  by_cases h0 : i = 0
  · subst h0
    exact ⟨a0, c0, ⟨mem_cell h 0, mem_cell h 1, mem_cell h 2, mem_cell h 3⟩, hx⟩
  · have : i = 1 := by omega
    subst this
    exact ⟨a1, c1, ⟨mem_cell h 4, mem_cell h 5, mem_cell h 6, mem_cell h 7⟩, hy⟩
theorem tV_in {w : World} {s : ByteArray} {a : Option Addr} (hs : s.size ≤ 9223372036854775807) : Rep w (tV s) a :=
  ⟨⟨⟨show (0 : Int) ≤ 2 by decide, show (2 : Int) ≤ 255 by decide⟩, ⟨show (-9223372036854775808 : Int) ≤ 0 by decide, show (0 : Int) ≤ 9223372036854775807 by decide⟩, hs, show (0 : Nat) ≤ 9223372036854775807 by decide⟩, .inl rfl⟩
/-- four stores into a node's box -/
def set4 (w : World) (b : Nat) (x0 x1 x2 x3 : Value) : World := (((w.setCell ⟨b, 0, none⟩ x0).setCell ⟨b, 1, none⟩ x1).setCell ⟨b, 2, none⟩ x2).setCell ⟨b, 3, none⟩ x3
abbrev zNode : Obj := .cells #[.int .u8 0, .int .i64 0, .string ⟨#[]⟩, .slice none 0 0] 50
theorem set4_at {w : World} {b : Nat} {x0 x1 x2 x3 : Value} (h : w.heap[b]? = some zNode) : (set4 w b x0 x1 x2 x3).heap[b]? = some (.cells #[x0, x1, x2, x3] 50) := by
  unfold set4
  rw [mem_set (mem_set (mem_set (mem_set h)))]
  rfl
theorem set4_far {w : World} {b k : Nat} {x0 x1 x2 x3 : Value} (h : k ≠ b) : (set4 w b x0 x1 x2 x3).heap[k]? = w.heap[k]? := by
  unfold set4
  rw [Below.heap_setCell _ _ _ _ h, Below.heap_setCell _ _ _ _ h, Below.heap_setCell _ _ _ _ h, Below.heap_setCell _ _ _ _ h]
theorem set4_below {B : Nat} {a w : World} {b : Nat} {x0 x1 x2 x3 : Value} (h : Below B a w) (hb : B ≤ b) : Below B a (set4 w b x0 x1 x2 x3) :=
  (((h.setCell (p := ⟨b, 0, none⟩) hb _).setCell (p := ⟨b, 1, none⟩) hb _).setCell (p := ⟨b, 2, none⟩) hb _).setCell (p := ⟨b, 3, none⟩) hb _
theorem node_cells {w : World} {b : Nat} {x0 x1 x2 x3 : Value} {T : TypeId} (h : w.heap[b]? = some (.cells #[x0, x1, x2, x3] T)) : w.cell? ⟨b, 0, none⟩ = some x0 ∧ w.cell? ⟨b, 1, none⟩ = some x1 ∧ w.cell? ⟨b, 2, none⟩ = some x2 ∧ w.cell? ⟨b, 3, none⟩ = some x3 := ⟨mem_cell h 0, mem_cell h 1, mem_cell h 2, mem_cell h 3⟩
/-- a store into a box of two slices leaves trees alone -/
theorem Rep.stored {w w' : World} {b n1 c1 n2 c2 : Nat} {a1 a2 : Option Addr} {T : TypeId} (hb : w.heap[b]? = some (.cells #[.slice a1 n1 c1, .slice a2 n2 c2] T)) (h : ∀ k, k ≠ b → w'.heap[k]? = w.heap[k]?) : ∀ {t : Tree} {a : Option Addr}, Rep w t a → Rep w' t a := by
  intro t
  induction t using Tree.ind with
  | h t ih =>
    intro a hr
    refine Rep.mk hr.fits ?_
    rcases hr.kids with h0 | ⟨c, off, ha, hk⟩
    · exact .inl h0
    · refine .inr ⟨c, off, ha, fun i hi => ?_⟩
      obtain ⟨ai, ci, hn, hx⟩ := hk i hi
      refine ⟨ai, ci, hn.same (h c ?_), ih i hi hx⟩
      rintro rfl
      have h1 := hn.kind
      rw [mem_cell hb] at h1
      generalize off + i * 4 = n at h1
      match n, h1 with
      | 0, h1 => cases h1
      | 1, h1 => cases h1
      | n + 2, h1 => simp at h1
end Go.Proofs.YtgochgcchkdlmaaDoor

/-
  Contract: sample (package ontimelaw16).
-/
namespace Go.Proofs.YtgochgcchkdlmaaDoor
set_option linter.unusedVariables false
set_option linter.unusedSimpArgs false
open Go.RowKit Go.Maps
set_option maxRecDepth 100000
set_option maxHeartbeats 80000000

theorem var_any (s : ByteArray) (w : World) : Calls Tryd.prog 53 #[.string s] w fun e w' => e = .returned (.agg #[.int .u8 2, .int .i64 0, .string s, .slice none 0 0]) ∧ Below w.heap.size w w' := by
  obtain ⟨W, hW⟩ : ∃ W : World, w.alloc (.cells #[.int .u8 0, .int .i64 0, .string ⟨#[]⟩, .slice none 0 0] 50) = W := ⟨_, rfl⟩
  have hBW : Below w.heap.size w W := by rw [← hW]; exact mem_alloc _ _
  have hXW : W.heap[w.heap.size]? = some (.cells #[.int .u8 0, .int .i64 0, .string ⟨#[]⟩, .slice none 0 0] 50) := by rw [← hW]; exact mem_new _ _
  obtain ⟨E, hE⟩ : ∃ E : World, (((W.setCell ⟨w.heap.size, 0, none⟩ (.int .u8 2)).setCell ⟨w.heap.size, 1, none⟩ (.int .i64 0)).setCell ⟨w.heap.size, 2, none⟩ (.string s)).setCell ⟨w.heap.size, 3, none⟩ (.slice none 0 0) = E := ⟨_, rfl⟩
  have HB : Hid (Below w.heap.size w E) := by
    show Below _ _ _
    rw [← hE]
    exact (((hBW.setCell (p := ⟨w.heap.size, 0, none⟩) (Nat.le_refl _) _).setCell (p := ⟨w.heap.size, 1, none⟩) (Nat.le_refl _) _).setCell (p := ⟨w.heap.size, 2, none⟩) (Nat.le_refl _) _).setCell (p := ⟨w.heap.size, 3, none⟩) (Nat.le_refl _) _
  have hXE : E.heap[w.heap.size]? = some (.cells #[.int .u8 2, .int .i64 0, .string s, .slice none 0 0] 50) := by rw [← hE, mem_set (mem_set (mem_set (mem_set hXW)))]; rfl
  obtain ⟨x0, x1, x2, x3⟩ : E.cell? ⟨w.heap.size, 0, none⟩ = some (.int .u8 2) ∧ E.cell? ⟨w.heap.size, 1, none⟩ = some (.int .i64 0) ∧ E.cell? ⟨w.heap.size, 2, none⟩ = some (.string s) ∧ E.cell? ⟨w.heap.size, 3, none⟩ = some (.slice none 0 0) := ⟨mem_cell hXE 0, mem_cell hXE 1, mem_cell hXE 2, mem_cell hXE 3⟩
  obtain ⟨y0, y1, y2, y3⟩ : W.cell? ⟨w.heap.size, 0, none⟩ = some (.int .u8 0) ∧ W.cell? ⟨w.heap.size, 1, none⟩ = some (.int .i64 0) ∧ W.cell? ⟨w.heap.size, 2, none⟩ = some (.string ⟨#[]⟩) ∧ W.cell? ⟨w.heap.size, 3, none⟩ = some (.slice none 0 0) := ⟨mem_cell hXW 0, mem_cell hXW 1, mem_cell hXW 2, mem_cell hXW 3⟩
  have f0 := mem_free hXW 0
  have f1 := mem_free hXW 1
  have f2 := mem_free hXW 2
  have f3 := mem_free hXW 3
  clear hBW hXW hXE
  go_enter Tryd.func53, Tryd.ntmps53
  go_wp2_with fail
  refine bodyPost_ret (v := .agg #[.int .u8 2, .int .i64 0, .string s, .slice none 0 0]) (by simp [results, Tryd.results53, go_sem, x0, x1, x2, x3]) rfl ?_
  exact ⟨rfl, HB.out⟩
theorem sample_any (w : World) : Calls Tryd.prog 31 #[] w fun e w' => ∃ ta tc, e = .returned (samP.val none 0 ta tc) ∧ PrgAt w' samP none ta ∧ Below w.heap.size w w' := by
  obtain ⟨W, hW⟩ : ∃ W : World, w.alloc (Obj.cells #[.slice none 0 0, .slice none 0 0] 25) = W := ⟨_, rfl⟩
  have hBW : Below w.heap.size w W := by rw [← hW]; exact mem_alloc _ _
  have hXW : W.heap[w.heap.size]? = some (Obj.cells #[.slice none 0 0, .slice none 0 0] 25) := by rw [← hW]; exact mem_new _ _
  have HB := Lib.hid hBW
  have HX := Lib.hid hXW
  have HV1 := Lib.hid (var_any sI W)
  clear hBW hXW
  have eV : ∀ args w, (callFunc 53 args).run Tryd.prog w = .ok (.enter 53 args) w := fun _ _ => rfl
  go_enter Tryd.func31, Tryd.ntmps31
  go_wp2_with fail
  clear hW
  refine HV1.out.mono ?_
  rintro e w1 ⟨rfl, hB1⟩
  clear HV1
  have HB1 := Lib.hid (mem_then HB.out hB1)
  have HX1 := Lib.hid (mem_keep HX.out hB1)
  -- the item
  obtain ⟨G1, hG1⟩ : ∃ G : World, w1.alloc (.cells #[.int .u8 2, .int .i64 0, .string sI, .slice none 0 0] 50) = G := ⟨_, rfl⟩
  have hBG1 : Below w1.heap.size w1 G1 := by rw [← hG1]; exact mem_alloc _ _
  have hXG1 : G1.heap[w1.heap.size]? = some (.cells #[.int .u8 2, .int .i64 0, .string sI, .slice none 0 0] 50) := by rw [← hG1]; exact mem_new _ _
  obtain ⟨G2, hG2⟩ : ∃ G : World, G1.alloc (.cells #[.int .u8 3, .int .i64 0, .string sA, .slice (some ⟨w1.heap.size, 0, none⟩) 1 1] 50) = G := ⟨_, rfl⟩
  have hBG2 : Below G1.heap.size G1 G2 := by rw [← hG2]; exact mem_alloc _ _
  have HB2 := Lib.hid (mem_then HB1.out (mem_then hBG1 hBG2))
  have HX2 := Lib.hid (mem_keep HX1.out (mem_then hBG1 hBG2))
  have HXI : Hid (G2.heap[G1.heap.size]? = some (.cells #[.int .u8 3, .int .i64 0, .string sA, .slice (some ⟨w1.heap.size, 0, none⟩) 1 1] 50)) := by show _ = _; rw [← hG2]; exact mem_new _ _
  have HRI : Hid (Rep G2 tItem (some ⟨w1.heap.size, 0, none⟩)) := t1_in (mem_keep hXG1 hBG2) (tV_in (by decide)) ⟨⟨by decide, by decide⟩, ⟨by decide, by decide⟩, by decide, by decide⟩
  clear hB1 hBG1 hXG1 hBG2
  go_upto_region 3 with fail
  clear hG1 hG2
  go_cut [3] from 11 to 15 (fun s w' => ∃ b g, s = .pointer (some ⟨b, 0, none⟩) ∧ w'.heap[b]? = some (.cells #[.int .u8 40, .int .i64 0, .string sE, .slice (some ⟨g, 0, none⟩) 2 2] 50) ∧ Rep w' tSet (some ⟨g, 0, none⟩) ∧ Below G2.heap.size G2 w')
  case first =>
    have hD0 : Below G2.heap.size G2 (World.drew G2) := (Below.refl _ _).drew
    refine wp_region_held_drew (S := fun w' => Below G2.heap.size G2 w') (by kernel_rfl) hD0 (fun hHeld => ?_)
    generalize hwd : World.drew G2 = v1 at hHeld hD0 ⊢
    clear hwd hD0
    refine hT 0 (.agg #[.int .u8 3, .int .i64 0, .string sA, .slice (some ⟨w1.heap.size, 0, none⟩) 1 1]) rfl (hy := ?_) (h := ?_)
    · intro w' hSw; obtain ⟨z0, z1, z2, z3⟩ := node_cells (mem_keep HXI.out hSw); go_simp
    (try simp only [Act.put, pA, pB, pD, pE, pF])
    refine hT 1 (.func (.func 53) #[] #[]) rfl (hy := ?_) (h := ?_)
    · intro w' hSw; go_simp
    (try simp only [Act.put, pA, pB, pC, pD, pE, pF])
    have HHV := Lib.hid hHeld
    refine wpAnyH_ready (rs := [2, 5]) (by kernel_rfl) (by simp) (AllReadyH.cons rfl (fun K hK => ?_) (AllReadyH.cons rfl (fun K hK => ?_) AllReadyH.nil))
    · go_simp
      refine (var_any sX v1).mono ?_
      rintro e w2 ⟨rfl, hB2⟩
      have HB9 := Lib.hid (mem_then HHV.out hB2)
      clear hB2
      refine hK.out _ _ (HB9.out) (fun hHeld => ?_)
      clear hK K
      rename_i hOld
      clear hOld
      (try simp only [Act.put, pA, pB, pC, pD, pE, pF])
      refine wpAnyH_ready (rs := [3, 5]) (by kernel_rfl) (by simp) (AllReadyH.cons rfl (fun K hK => ?_) (AllReadyH.cons rfl (fun K hK => ?_) AllReadyH.nil))
      · go_simp
        refine hK.out _ _ (mem_then HB9.out (mem_alloc _ _)) (fun hHeld => ?_)
        clear hK K
        rename_i hOld
        clear hOld
        (try simp only [Act.put, pA, pB, pC, pD, pE, pF])
        have hq : (w2.alloc (.cells #[.int .u8 3, .int .i64 0, .string sA, .slice (some ⟨w1.heap.size, 0, none⟩) 1 1, .int .u8 2, .int .i64 0, .string sX, .slice none 0 0] 50)).heap[w2.heap.size]? = some (.cells #[.int .u8 3, .int .i64 0, .string sA, .slice (some ⟨w1.heap.size, 0, none⟩) 1 1, .int .u8 2, .int .i64 0, .string sX, .slice none 0 0] 50) := mem_new _ _
        have hqB := mem_alloc w2 (.cells #[.int .u8 3, .int .i64 0, .string sA, .slice (some ⟨w1.heap.size, 0, none⟩) 1 1, .int .u8 2, .int .i64 0, .string sX, .slice none 0 0] 50)
        generalize hQ : w2.alloc (.cells #[.int .u8 3, .int .i64 0, .string sA, .slice (some ⟨w1.heap.size, 0, none⟩) 1 1, .int .u8 2, .int .i64 0, .string sX, .slice none 0 0] 50) = Q at hq hqB hHeld ⊢
        clear hQ
        have HQ1 := Lib.hid hq
        have HQ2 := Lib.hid (mem_then HB9.out hqB)
        clear hq hqB
        refine hT 4 (.agg #[.int .u8 40, .int .i64 0, .string sE, .slice (some ⟨w2.heap.size, 0, none⟩) 2 2]) rfl (hy := ?_) (h := ?_)
        · intro w' hSw; go_simp
        (try simp only [Act.put, pA, pB, pC, pD, pE, pF])
        refine hR 5 rfl (fun K hK => ?_)
        go_simp
        refine hK.out _ _ (mem_then HQ2.out (mem_alloc _ _)) (fun hHeld => ?_)
        clear hK K
        rename_i hOld
        clear hOld
        (try simp only [Act.put, pA, pB, pC, pD, pE, pF])
        have hz : (Q.alloc zNode).heap[Q.heap.size]? = some zNode := mem_new _ _
        have hzB := mem_alloc Q zNode
        generalize hQ : Q.alloc zNode = U at hz hzB hHeld ⊢
        clear hQ
        have HU : Hid (Below G2.heap.size G2 U) := mem_then HQ2.out hzB
        have HZ : Hid (U.heap[Q.heap.size]? = some zNode) := hz
        have HG : Hid (U.heap[w2.heap.size]? = some (.cells #[.int .u8 3, .int .i64 0, .string sA, .slice (some ⟨w1.heap.size, 0, none⟩) 1 1, .int .u8 2, .int .i64 0, .string sX, .slice none 0 0] 50)) := mem_keep HQ1.out hzB
        have HNE : Hid (w2.heap.size ≠ Q.heap.size) := fun e => by have h1 := HG.out; rw [e, HZ.out] at h1; cases h1
        have HGE : Hid (G2.heap.size ≤ Q.heap.size) := HQ2.out.size
        clear hz hzB
        obtain ⟨y0, y1, y2, y3⟩ := node_cells HZ.out
        have f0 := mem_free HZ.out 0
        have f1 := mem_free HZ.out 1
        have f2 := mem_free HZ.out 2
        have f3 := mem_free HZ.out 3
        refine hR 6 rfl (fun K hK => ?_)
        go_simp
        refine hK.out _ _ (set4_below (x0 := .int .u8 40) (x1 := .int .i64 0) (x2 := .string sE) (x3 := .slice (some ⟨w2.heap.size, 0, none⟩) 2 2) HU.out HGE.out) (fun hHeld => ?_)
        clear hK K
        rename_i hOld
        clear hOld
        (try simp only [Act.put, pA, pB, pC, pD, pE, pF])
        clear y0 y1 y2 y3 f0 f1 f2 f3 hHeld
        refine wpAnyH_done (by kernel_rfl) ?_ _
        go_wp2_with fail
        go_meet
        exact ⟨Q.heap.size, w2.heap.size, rfl, set4_at HZ.out, t2_in (T := 50) (x := tItem) (y := tV sX) ((set4_far HNE.out).trans HG.out) (HRI.out.below (set4_below HU.out HGE.out)) (tV_in (by decide)) ⟨⟨by decide, by decide⟩, ⟨by decide, by decide⟩, by decide, by decide⟩, set4_below HU.out HGE.out⟩
      · go_simp
        refine hK.out _ _ (mem_then HB9.out (mem_alloc _ _)) (fun hHeld => ?_)
        clear hK K
        rename_i hOld
        clear hOld
        (try simp only [Act.put, pA, pB, pC, pD, pE, pF])
        have hz : (w2.alloc zNode).heap[w2.heap.size]? = some zNode := mem_new _ _
        have hzB := mem_alloc w2 zNode
        generalize hQ : w2.alloc zNode = Q at hz hzB hHeld ⊢
        clear hQ
        have HQ1 := Lib.hid hz
        have HQ2 := Lib.hid (mem_then HB9.out hzB)
        clear hz hzB
        refine hR 3 rfl (fun K hK => ?_)
        go_simp
        refine hK.out _ _ (mem_then HQ2.out (mem_alloc _ _)) (fun hHeld => ?_)
        clear hK K
        rename_i hOld
        clear hOld
        (try simp only [Act.put, pA, pB, pC, pD, pE, pF])
        have hq : (Q.alloc (.cells #[.int .u8 3, .int .i64 0, .string sA, .slice (some ⟨w1.heap.size, 0, none⟩) 1 1, .int .u8 2, .int .i64 0, .string sX, .slice none 0 0] 50)).heap[Q.heap.size]? = some (.cells #[.int .u8 3, .int .i64 0, .string sA, .slice (some ⟨w1.heap.size, 0, none⟩) 1 1, .int .u8 2, .int .i64 0, .string sX, .slice none 0 0] 50) := mem_new _ _
        have hqB := mem_alloc Q (.cells #[.int .u8 3, .int .i64 0, .string sA, .slice (some ⟨w1.heap.size, 0, none⟩) 1 1, .int .u8 2, .int .i64 0, .string sX, .slice none 0 0] 50)
        generalize hQ : Q.alloc (.cells #[.int .u8 3, .int .i64 0, .string sA, .slice (some ⟨w1.heap.size, 0, none⟩) 1 1, .int .u8 2, .int .i64 0, .string sX, .slice none 0 0] 50) = U at hq hqB hHeld ⊢
        clear hQ
        refine hT 4 (.agg #[.int .u8 40, .int .i64 0, .string sE, .slice (some ⟨Q.heap.size, 0, none⟩) 2 2]) rfl (hy := ?_) (h := ?_)
        · intro w' hSw; go_simp
        (try simp only [Act.put, pA, pB, pC, pD, pE, pF])
        have HU : Hid (Below G2.heap.size G2 U) := mem_then HQ2.out hqB
        have HZ : Hid (U.heap[w2.heap.size]? = some zNode) := mem_keep HQ1.out hqB
        have HG : Hid (U.heap[Q.heap.size]? = some (.cells #[.int .u8 3, .int .i64 0, .string sA, .slice (some ⟨w1.heap.size, 0, none⟩) 1 1, .int .u8 2, .int .i64 0, .string sX, .slice none 0 0] 50)) := hq
        have HNE : Hid (Q.heap.size ≠ w2.heap.size) := fun e => by have h1 := HG.out; rw [e, HZ.out] at h1; cases h1
        have HGE : Hid (G2.heap.size ≤ w2.heap.size) := HB9.out.size
        clear hq hqB
        obtain ⟨y0, y1, y2, y3⟩ := node_cells HZ.out
        have f0 := mem_free HZ.out 0
        have f1 := mem_free HZ.out 1
        have f2 := mem_free HZ.out 2
        have f3 := mem_free HZ.out 3
        refine hR 6 rfl (fun K hK => ?_)
        go_simp
        refine hK.out _ _ (set4_below (x0 := .int .u8 40) (x1 := .int .i64 0) (x2 := .string sE) (x3 := .slice (some ⟨Q.heap.size, 0, none⟩) 2 2) HU.out HGE.out) (fun hHeld => ?_)
        clear hK K
        rename_i hOld
        clear hOld
        (try simp only [Act.put, pA, pB, pC, pD, pE, pF])
        clear y0 y1 y2 y3 f0 f1 f2 f3 hHeld
        refine wpAnyH_done (by kernel_rfl) ?_ _
        go_wp2_with fail
        go_meet
        exact ⟨w2.heap.size, Q.heap.size, rfl, set4_at HZ.out, t2_in (T := 50) (x := tItem) (y := tV sX) ((set4_far HNE.out).trans HG.out) (HRI.out.below (set4_below HU.out HGE.out)) (tV_in (by decide)) ⟨⟨by decide, by decide⟩, ⟨by decide, by decide⟩, by decide, by decide⟩, set4_below HU.out HGE.out⟩
    · go_simp
      refine hK.out _ _ (mem_then HHV.out (mem_alloc _ _)) (fun hHeld => ?_)
      clear hK K
      rename_i hOld
      clear hOld
      (try simp only [Act.put, pA, pB, pC, pD, pE, pF])
      have hz : (v1.alloc zNode).heap[v1.heap.size]? = some zNode := mem_new _ _
      have hzB := mem_alloc v1 zNode
      generalize hQ : v1.alloc zNode = Q at hz hzB hHeld ⊢
      clear hQ
      have HQ1 := Lib.hid hz
      have HQ2 := Lib.hid (mem_then HHV.out hzB)
      clear hz hzB
      refine hR 2 rfl (fun K hK => ?_)
      go_simp
      refine (var_any sX Q).mono ?_
      rintro e w2 ⟨rfl, hB2⟩
      have HB9 := Lib.hid (mem_then HQ2.out hB2)
      have HQ3 := Lib.hid (mem_keep HQ1.out hB2)
      clear hB2
      refine hK.out _ _ (HB9.out) (fun hHeld => ?_)
      clear hK K
      rename_i hOld
      clear hOld
      (try simp only [Act.put, pA, pB, pC, pD, pE, pF])
      refine hR 3 rfl (fun K hK => ?_)
      go_simp
      refine hK.out _ _ (mem_then HB9.out (mem_alloc _ _)) (fun hHeld => ?_)
      clear hK K
      rename_i hOld
      clear hOld
      (try simp only [Act.put, pA, pB, pC, pD, pE, pF])
      have hq : (w2.alloc (.cells #[.int .u8 3, .int .i64 0, .string sA, .slice (some ⟨w1.heap.size, 0, none⟩) 1 1, .int .u8 2, .int .i64 0, .string sX, .slice none 0 0] 50)).heap[w2.heap.size]? = some (.cells #[.int .u8 3, .int .i64 0, .string sA, .slice (some ⟨w1.heap.size, 0, none⟩) 1 1, .int .u8 2, .int .i64 0, .string sX, .slice none 0 0] 50) := mem_new _ _
      have hqB := mem_alloc w2 (.cells #[.int .u8 3, .int .i64 0, .string sA, .slice (some ⟨w1.heap.size, 0, none⟩) 1 1, .int .u8 2, .int .i64 0, .string sX, .slice none 0 0] 50)
      generalize hQ : w2.alloc (.cells #[.int .u8 3, .int .i64 0, .string sA, .slice (some ⟨w1.heap.size, 0, none⟩) 1 1, .int .u8 2, .int .i64 0, .string sX, .slice none 0 0] 50) = U at hq hqB hHeld ⊢
      clear hQ
      refine hT 4 (.agg #[.int .u8 40, .int .i64 0, .string sE, .slice (some ⟨w2.heap.size, 0, none⟩) 2 2]) rfl (hy := ?_) (h := ?_)
      · intro w' hSw; go_simp
      (try simp only [Act.put, pA, pB, pC, pD, pE, pF])
      have HU : Hid (Below G2.heap.size G2 U) := mem_then HB9.out hqB
      have HZ : Hid (U.heap[v1.heap.size]? = some zNode) := mem_keep HQ3.out hqB
      have HG : Hid (U.heap[w2.heap.size]? = some (.cells #[.int .u8 3, .int .i64 0, .string sA, .slice (some ⟨w1.heap.size, 0, none⟩) 1 1, .int .u8 2, .int .i64 0, .string sX, .slice none 0 0] 50)) := hq
      have HNE : Hid (w2.heap.size ≠ v1.heap.size) := fun e => by have h1 := HG.out; rw [e, HZ.out] at h1; cases h1
      have HGE : Hid (G2.heap.size ≤ v1.heap.size) := HHV.out.size
      clear hq hqB
      obtain ⟨y0, y1, y2, y3⟩ := node_cells HZ.out
      have f0 := mem_free HZ.out 0
      have f1 := mem_free HZ.out 1
      have f2 := mem_free HZ.out 2
      have f3 := mem_free HZ.out 3
      refine hR 6 rfl (fun K hK => ?_)
      go_simp
      refine hK.out _ _ (set4_below (x0 := .int .u8 40) (x1 := .int .i64 0) (x2 := .string sE) (x3 := .slice (some ⟨w2.heap.size, 0, none⟩) 2 2) HU.out HGE.out) (fun hHeld => ?_)
      clear hK K
      rename_i hOld
      clear hOld
      (try simp only [Act.put, pA, pB, pC, pD, pE, pF])
      clear y0 y1 y2 y3 f0 f1 f2 f3 hHeld
      refine wpAnyH_done (by kernel_rfl) ?_ _
      go_wp2_with fail
      go_meet
      exact ⟨v1.heap.size, w2.heap.size, rfl, set4_at HZ.out, t2_in (T := 50) (x := tItem) (y := tV sX) ((set4_far HNE.out).trans HG.out) (HRI.out.below (set4_below HU.out HGE.out)) (tV_in (by decide)) ⟨⟨by decide, by decide⟩, ⟨by decide, by decide⟩, by decide, by decide⟩, set4_below HU.out HGE.out⟩
  case rest =>
  obtain ⟨bs, gs, rfl, hxs, hrs, hBc⟩ := hcut
  have HBc := Lib.hid (mem_then HB2.out hBc)
  have HXc := Lib.hid (mem_keep HX2.out hBc)
  have HXS := Lib.hid hxs
  have HRS := Lib.hid hrs
  have HVx := Lib.hid (var_any sX wc)
  clear hxs hrs hBc
  go_wp2_with fail
  refine HVx.out.mono ?_
  rintro e c1 ⟨rfl, hB⟩
  have HC1 := Lib.hid hB
  have HV2 := Lib.hid (var_any sX c1)
  clear HVx hB
  go_wp2_with fail
  refine HV2.out.mono ?_
  rintro e c2 ⟨rfl, hB⟩
  have HC2 := Lib.hid (mem_then HC1.out hB)
  have HV3 := Lib.hid (var_any sI c2)
  clear HV2 hB
  go_wp2_with fail
  refine HV3.out.mono ?_
  rintro e c3 ⟨rfl, hB⟩
  have HC3 := Lib.hid (mem_then HC2.out hB)
  clear HV3 hB
  obtain ⟨G3, hG3⟩ : ∃ G : World, c3.alloc (.cells #[.int .u8 2, .int .i64 0, .string sX, .slice none 0 0, .int .u8 2, .int .i64 0, .string sI, .slice none 0 0] 50) = G := ⟨_, rfl⟩
  have hBG3 : Below c3.heap.size c3 G3 := by rw [← hG3]; exact mem_alloc _ _
  have hXG3 : G3.heap[c3.heap.size]? = some (.cells #[.int .u8 2, .int .i64 0, .string sX, .slice none 0 0, .int .u8 2, .int .i64 0, .string sI, .slice none 0 0] 50) := by rw [← hG3]; exact mem_new _ _
  obtain ⟨G4, hG4⟩ : ∃ G : World, G3.alloc (.cells #[.int .u8 2, .int .i64 0, .string sX, .slice none 0 0, .int .u8 6, .int .i64 0, .string sE, .slice (some ⟨c3.heap.size, 0, none⟩) 2 2] 50) = G := ⟨_, rfl⟩
  have hBG4 : Below G3.heap.size G3 G4 := by rw [← hG4]; exact mem_alloc _ _
  have hXG4 : G4.heap[G3.heap.size]? = some (.cells #[.int .u8 2, .int .i64 0, .string sX, .slice none 0 0, .int .u8 6, .int .i64 0, .string sE, .slice (some ⟨c3.heap.size, 0, none⟩) 2 2] 50) := by rw [← hG4]; exact mem_new _ _
  obtain ⟨G5, hG5⟩ : ∃ G : World, G4.alloc (.cells #[.int .u8 40, .int .i64 0, .string sE, .slice (some ⟨G3.heap.size, 0, none⟩) 2 2] 50) = G := ⟨_, rfl⟩
  have hBG5 : Below G4.heap.size G4 G5 := by rw [← hG5]; exact mem_alloc _ _
  have hXG5 : G5.heap[G4.heap.size]? = some (.cells #[.int .u8 40, .int .i64 0, .string sE, .slice (some ⟨G3.heap.size, 0, none⟩) 2 2] 50) := by rw [← hG5]; exact mem_new _ _
  have HC5 := Lib.hid (mem_then HC3.out (mem_then hBG3 (mem_then hBG4 hBG5)))
  have HXA := Lib.hid hXG5
  have HRA : Hid (Rep G5 tAdd (some ⟨G3.heap.size, 0, none⟩)) := (t2_in (T := 50) (x := tV sX) (y := t2 6 0 sE (tV sX) (tV sI)) hXG4 (tV_in (by decide)) ((t2_in (T := 50) (x := tV sX) (y := tV sI) hXG3 (tV_in (by decide)) (tV_in (by decide)) ⟨⟨by decide, by decide⟩, ⟨by decide, by decide⟩, by decide, by decide⟩).below hBG4) ⟨⟨by decide, by decide⟩, ⟨by decide, by decide⟩, by decide, by decide⟩).below hBG5
  clear hBG3 hXG3 hBG4 hXG4 hBG5 hXG5
  go_upto_region 5 with fail
  clear hG3 hG4 hG5
  obtain ⟨x0, x1, x2, x3⟩ := node_cells (mem_keep HXS.out HC5.out)
  obtain ⟨y0, y1, y2, y3⟩ := node_cells HXA.out
  obtain ⟨G6, hG6⟩ : ∃ G : World, G5.alloc (.cells #[.int .u8 40, .int .i64 0, .string sE, .slice (some ⟨gs, 0, none⟩) 2 2, .int .u8 40, .int .i64 0, .string sE, .slice (some ⟨G3.heap.size, 0, none⟩) 2 2] 50) = G := ⟨_, rfl⟩
  have hBG6 : Below G5.heap.size G5 G6 := by rw [← hG6]; exact mem_alloc _ _
  have hXG6 : G6.heap[G5.heap.size]? = some (.cells #[.int .u8 40, .int .i64 0, .string sE, .slice (some ⟨gs, 0, none⟩) 2 2, .int .u8 40, .int .i64 0, .string sE, .slice (some ⟨G3.heap.size, 0, none⟩) 2 2] 50) := by rw [← hG6]; exact mem_new _ _
  obtain ⟨G7, hG7⟩ : ∃ G : World, G6.alloc (.cells #[.int .u8 47, .int .i64 0, .string sE, .slice (some ⟨G5.heap.size, 0, none⟩) 2 2] 50) = G := ⟨_, rfl⟩
  have hBG7 : Below G6.heap.size G6 G7 := by rw [← hG7]; exact mem_alloc _ _
  have hXG7 : G7.heap[G6.heap.size]? = some (.cells #[.int .u8 47, .int .i64 0, .string sE, .slice (some ⟨G5.heap.size, 0, none⟩) 2 2] 50) := by rw [← hG7]; exact mem_new _ _
  obtain ⟨G8, hG8⟩ : ∃ G : World, G7.alloc (.cells #[.int .u8 42, .int .i64 3, .string sI, .slice (some ⟨G6.heap.size, 0, none⟩) 1 1] 50) = G := ⟨_, rfl⟩
  have hBG8 : Below G7.heap.size G7 G8 := by rw [← hG8]; exact mem_alloc _ _
  have hXG8 : G8.heap[G7.heap.size]? = some (.cells #[.int .u8 42, .int .i64 3, .string sI, .slice (some ⟨G6.heap.size, 0, none⟩) 1 1] 50) := by rw [← hG8]; exact mem_new _ _
  have HC8 := Lib.hid (mem_then HC5.out (mem_then hBG6 (mem_then hBG7 hBG8)))
  have HXL := Lib.hid hXG8
  have HRL : Hid (Rep G8 tLoop (some ⟨G6.heap.size, 0, none⟩)) := (t1_in (T := 50) (x := tBlk) hXG7 ((t2_in (T := 50) (x := tSet) (y := tAdd) hXG6 (HRS.out.below (mem_then HC5.out hBG6)) (HRA.out.below hBG6) ⟨⟨by decide, by decide⟩, ⟨by decide, by decide⟩, by decide, by decide⟩).below hBG7) ⟨⟨by decide, by decide⟩, ⟨by decide, by decide⟩, by decide, by decide⟩).below hBG8
  have HVo := Lib.hid (var_any sX G8)
  clear hBG6 hXG6 hBG7 hXG7 hBG8 hXG8
  go_wp2_with fail
  clear hG6 hG7 hG8 x0 x1 x2 x3 y0 y1 y2 y3
  refine HVo.out.mono ?_
  rintro e d1 ⟨rfl, hB⟩
  have HD1 := Lib.hid hB
  clear HVo hB
  obtain ⟨H1, hH1⟩ : ∃ G : World, d1.alloc (.cells #[.int .u8 2, .int .i64 0, .string sX, .slice none 0 0] 50) = G := ⟨_, rfl⟩
  have hBH1 : Below d1.heap.size d1 H1 := by rw [← hH1]; exact mem_alloc _ _
  have hXH1 : H1.heap[d1.heap.size]? = some (.cells #[.int .u8 2, .int .i64 0, .string sX, .slice none 0 0] 50) := by rw [← hH1]; exact mem_new _ _
  obtain ⟨H2, hH2⟩ : ∃ G : World, H1.alloc (.cells #[.int .u8 45, .int .i64 1, .string sE, .slice (some ⟨d1.heap.size, 0, none⟩) 1 1] 50) = G := ⟨_, rfl⟩
  have hBH2 : Below H1.heap.size H1 H2 := by rw [← hH2]; exact mem_alloc _ _
  have hXH2 : H2.heap[H1.heap.size]? = some (.cells #[.int .u8 45, .int .i64 1, .string sE, .slice (some ⟨d1.heap.size, 0, none⟩) 1 1] 50) := by rw [← hH2]; exact mem_new _ _
  have HD2 := Lib.hid (mem_then HD1.out (mem_then hBH1 hBH2))
  have HXO := Lib.hid hXH2
  have HRO : Hid (Rep H2 tOut (some ⟨d1.heap.size, 0, none⟩)) := (t1_in (T := 50) (x := tV sX) hXH1 (tV_in (by decide)) ⟨⟨by decide, by decide⟩, ⟨by decide, by decide⟩, by decide, by decide⟩).below hBH2
  clear hBH1 hXH1 hBH2 hXH2
  go_upto_region 7 with fail
  clear hH1 hH2
  obtain ⟨I1, hI1⟩ : ∃ G : World, H2.alloc (.cells #[.string sX] 9) = G := ⟨_, rfl⟩
  have hBI1 : Below H2.heap.size H2 I1 := by rw [← hI1]; exact mem_alloc _ _
  have hXI1 : I1.heap[H2.heap.size]? = some (.cells #[.string sX] 9) := by rw [← hI1]; exact mem_new _ _
  obtain ⟨I2, hI2⟩ : ∃ G : World, I1.alloc (.cells #[.string sA, .int .i64 3] 88) = G := ⟨_, rfl⟩
  have hBI2 : Below I1.heap.size I1 I2 := by rw [← hI2]; exact mem_alloc _ _
  have hXI2 : I2.heap[I1.heap.size]? = some (.cells #[.string sA, .int .i64 3] 88) := by rw [← hI2]; exact mem_new _ _
  obtain ⟨I3, hI3⟩ : ∃ G : World, I2.alloc (.cells #[.int .u8 42, .int .i64 3, .string sI, .slice (some ⟨G6.heap.size, 0, none⟩) 1 1, .int .u8 45, .int .i64 1, .string sE, .slice (some ⟨d1.heap.size, 0, none⟩) 1 1] 50) = G := ⟨_, rfl⟩
  have hBI3 : Below I2.heap.size I2 I3 := by rw [← hI3]; exact mem_alloc _ _
  have hXI3 : I3.heap[I2.heap.size]? = some (.cells #[.int .u8 42, .int .i64 3, .string sI, .slice (some ⟨G6.heap.size, 0, none⟩) 1 1, .int .u8 45, .int .i64 1, .string sE, .slice (some ⟨d1.heap.size, 0, none⟩) 1 1] 50) := by rw [← hI3]; exact mem_new _ _
  obtain ⟨I4, hI4⟩ : ∃ G : World, I3.alloc (.cells #[.string sTa, .int .i64 5, .slice (some ⟨H2.heap.size, 0, none⟩) 1 1, .slice (some ⟨I1.heap.size, 0, none⟩) 1 1, .int .u8 47, .int .i64 0, .string sE, .slice (some ⟨I2.heap.size, 0, none⟩) 2 2] 52) = G := ⟨_, rfl⟩
  have hBI4 : Below I3.heap.size I3 I4 := by rw [← hI4]; exact mem_alloc _ _
  have hXI4 : I4.heap[I3.heap.size]? = some (.cells #[.string sTa, .int .i64 5, .slice (some ⟨H2.heap.size, 0, none⟩) 1 1, .slice (some ⟨I1.heap.size, 0, none⟩) 1 1, .int .u8 47, .int .i64 0, .string sE, .slice (some ⟨I2.heap.size, 0, none⟩) 2 2] 52) := by rw [← hI4]; exact mem_new _ _
  obtain ⟨x0, x1, x2, x3⟩ := node_cells (mem_keep HXL.out (mem_then HD2.out (mem_then hBI1 hBI2)))
  obtain ⟨y0, y1, y2, y3⟩ := node_cells (mem_keep HXO.out (mem_then hBI1 hBI2))
  have HI4 : Hid (Below H2.heap.size H2 I4) := mem_then hBI1 (mem_then hBI2 (mem_then hBI3 hBI4))
  have HXR : Hid (I4.heap[w.heap.size]? = some (.cells #[.slice none 0 0, .slice none 0 0] 25)) := mem_keep HXc.out (mem_then HC8.out (mem_then HD2.out HI4.out))
  have z0 := mem_cell HXR.out 0
  have z1 := mem_cell HXR.out 1
  have f0 := mem_free HXR.out 0
  have f1 := mem_free HXR.out 1
  simp only [List.getElem?_toArray, List.getElem?_cons_zero, List.getElem?_cons_succ] at z0 z1
  obtain ⟨E, hE⟩ : ∃ E : World, (I4.setCell ⟨w.heap.size, 0, none⟩ (.slice none 0 0)).setCell ⟨w.heap.size, 1, none⟩ (.slice (some ⟨I3.heap.size, 0, none⟩) 1 1) = E := ⟨_, rfl⟩
  have hXE : E.heap[w.heap.size]? = some (.cells #[.slice none 0 0, .slice (some ⟨I3.heap.size, 0, none⟩) 1 1] 25) := by rw [← hE, mem_set (mem_set HXR.out)]; rfl
  have HEF : Hid (∀ k, k ≠ w.heap.size → E.heap[k]? = I4.heap[k]?) := fun k hk => by rw [← hE, Below.heap_setCell _ _ _ _ hk, Below.heap_setCell _ _ _ _ hk]
  have HEB : Hid (Below w.heap.size w E) := by
    show Below _ _ _
    rw [← hE]
    exact ((mem_then HBc.out (mem_then HC8.out (mem_then HD2.out HI4.out))).setCell (p := ⟨w.heap.size, 0, none⟩) (Nat.le_refl _) _).setCell (p := ⟨w.heap.size, 1, none⟩) (Nat.le_refl _) _
  have HLT : Hid (w.heap.size < H2.heap.size) := by
    have h1 := mem_lt (mem_keep HXc.out (mem_then HC8.out HD2.out))
    exact h1
  have HL1 := Lib.hid hBI1.size
  have HL2 := Lib.hid hBI2.size
  have HL3 := Lib.hid hBI3.size
  have HE1 : Hid (E.heap[H2.heap.size]? = some (.cells #[.string sX] 9)) := (HEF.out _ (by have := HLT.out; omega)).trans (mem_keep hXI1 (mem_then hBI2 (mem_then hBI3 hBI4)))
  have HE2 : Hid (E.heap[I1.heap.size]? = some (.cells #[.string sA, .int .i64 3] 88)) := (HEF.out _ (by have := HLT.out; have := HL1.out; omega)).trans (mem_keep hXI2 (mem_then hBI3 hBI4))
  have HE4 : Hid (E.heap[I3.heap.size]? = some (.cells #[.string sTa, .int .i64 5, .slice (some ⟨H2.heap.size, 0, none⟩) 1 1, .slice (some ⟨I1.heap.size, 0, none⟩) 1 1, .int .u8 47, .int .i64 0, .string sE, .slice (some ⟨I2.heap.size, 0, none⟩) 2 2] 52)) := (HEF.out _ (by have := HLT.out; have := HL1.out; have := HL2.out; have := HL3.out; omega)).trans hXI4
  have HRB : Hid (Rep E tBody (some ⟨I2.heap.size, 0, none⟩)) := Rep.stored HXR.out HEF.out (t2_in (T := 50) (x := tLoop) (y := tOut) (mem_keep hXI3 hBI4) (HRL.out.below (mem_then HD2.out HI4.out)) (HRO.out.below HI4.out) ⟨⟨by decide, by decide⟩, ⟨by decide, by decide⟩, by decide, by decide⟩)
  have q0 := mem_cell hXE 0
  have q1 := mem_cell hXE 1
  simp only [List.getElem?_toArray, List.getElem?_cons_zero, List.getElem?_cons_succ] at q0 q1
  clear hBI1 hXI1 hBI2 hXI2 hBI3 hXI3 hBI4 hXI4 hXE
  go_wp2_with fail
  refine bodyPost_ret (v := .agg #[.slice none 0 0, .slice (some ⟨I3.heap.size, 0, none⟩) 1 1]) (by simp [results, Tryd.results31, go_sem, q0, q1]) rfl ?_
  refine ⟨some ⟨I3.heap.size, 0, none⟩, 1, rfl, ⟨⟨Nat.zero_le _, fun i hi => absurd hi (Nat.not_lt_zero i)⟩, (show (1 : Nat) ≤ 9223372036854775807 by decide), fun i hi => ?_⟩, HEB.out⟩
  have h0 : i = 0 := by have h1 : i < 1 := hi; omega
  subst h0
  refine ⟨I3.heap.size, 0, ⟨some ⟨H2.heap.size, 0, none⟩, 1, some ⟨I1.heap.size, 0, none⟩, 1, some ⟨I2.heap.size, 0, none⟩, 2⟩, rfl, fun o ho => ?_, ⟨(show (2 : Nat) ≤ 9223372036854775807 by decide), ⟨by decide, by decide⟩, ⟨(show (1 : Nat) ≤ 9223372036854775807 by decide), fun i hi => ?_⟩, ⟨(show (1 : Nat) ≤ 9223372036854775807 by decide), fun i hi => ?_⟩, HRB.out⟩⟩
  · rw [show 0 + 0 * 8 + o = o by omega]
    exact mem_cell HE4.out o
  · have h0 : i = 0 := by have h1 : i < 1 := hi; omega
    subst h0
    exact ⟨H2.heap.size, 0, rfl, mem_cell HE1.out 0, (show (1 : Nat) ≤ 9223372036854775807 by decide)⟩
  · have h0 : i = 0 := by have h1 : i < 1 := hi; omega
    subst h0
    exact ⟨I1.heap.size, 0, rfl, mem_cell HE2.out 0, mem_cell HE2.out 1, (show (1 : Nat) ≤ 9223372036854775807 by decide), by decide, by decide⟩
end Go.Proofs.YtgochgcchkdlmaaDoor
