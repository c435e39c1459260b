/-
  Rows of nodes that a call builds; contract: replaced (package ontimelaw16), a tree with a variable replaced by a number, in new memory.
-/
import Derived.Test.YtgochgcchkdlmaaDoorInCopies
import Derived.Test.YtgochgcchkdlmaaDoorInUnrollP
import Derived.Test.YtgochgcchkdlmaaDoorInSams
namespace Go.Proofs.YtgochgcchkdlmaaDoor
set_option linter.unusedVariables false
set_option linter.unusedSimpArgs false
open Go.RowKit Go.Maps
set_option maxRecDepth 100000
set_option maxHeartbeats 80000000

abbrev noT : Tree := .leaf 0 0 ByteArray.empty
theorem node_info : (Tryd.prog.info? 50).map (fun i => (i.zero, i.size, i.bytes)) = some (some (.agg #[.int .u8 0, .int .i64 0, .string ⟨#[]⟩, .slice none 0 0]), 4, 56) := by kernel_rfl
theorem rowsTo_kids {f g : Nat → Tree} {x : Nat → Option Addr × Nat} {n : Nat} (h : ∀ i, i < n → f i = g i) : rowsTo f x n = rowsTo g x n := by
  induction n with
  | zero => rfl
  | succ n ih => simp only [rowsTo]; rw [ih (fun i hi => h i (by omega)), h n (by omega)]
theorem rowsTo_add (f : Nat → Tree) (x : Nat → Option Addr × Nat) (n : Nat) : ∀ m, rowsTo f x (n + m) = rowsTo f x n ++ rowsTo (fun i => f (n + i)) (fun i => x (n + i)) m
  | 0 => by simp [rowsTo]
  | m + 1 => by
    show rowsTo f x (n + m) ++ (f (n + m)).row (x (n + m)) = rowsTo f x n ++ (rowsTo (fun i => f (n + i)) (fun i => x (n + i)) m ++ (f (n + m)).row (x (n + m)))
    rw [rowsTo_add f x n m, List.append_assoc]
theorem rowsTo_ones {f : Nat → Tree} {x : Nat → Option Addr × Nat} : ∀ n, ∀ u ∈ rowsTo f x n, u.oneCell' = true
  | 0, u, h => (nomatch h)
  | n + 1, u, h => by
    rcases List.mem_append.1 h with h | h
    · exact rowsTo_ones n u h
    · simp [Tree.row] at h
      rcases h with rfl | rfl | rfl | rfl <;> rfl
/-- what lies in memory lies in memory that is there -/
theorem Rep.in_ {w : World} : ∀ {t : Tree} {a : Option Addr}, Rep w t a → RepIn (fun k => k < w.heap.size) w t a := by
  intro t
  induction t using Tree.ind with
  | h t ih =>
    intro a h
    refine RepIn.mk h.fits ?_
    rcases h.kids with h0 | ⟨b, off, ha, hk⟩
    · exact .inl h0
    · by_cases h0 : t.len = 0
      · exact .inl h0
      · obtain ⟨_, _, hn, _⟩ := hk 0 (by omega)
        exact .inr ⟨b, off, ha, hn.lt, fun i hi => by obtain ⟨ai, ci, hn, hr⟩ := hk i hi; exact ⟨ai, ci, hn, ih i hi hr⟩⟩
/-- a row of nodes of the call's own -/
structure NRow (N : Nat) (S : Nat → Prop) (w : World) (v : Value) (l : List Tree) (x : Nat → Option Addr × Nat) : Prop where
  ro : w.ownsRow N 50 4 v l.length (rowsTo (fun i => l.getD i noT) x l.length)
  reps : ∀ i, i < l.length → RepIn (fun k => S k ∧ v.ownBlock ≠ some k) w (l.getD i noT) (x i).1
theorem NRow.nil {N : Nat} {S : Nat → Prop} {w : World} : NRow N S w (.slice none 0 0) [] (fun _ => (none, 0)) := ⟨World.ownsRow_nil _ _ _ _, fun i h => (nomatch h)⟩
theorem NRow.keep {N : Nat} {S : Nat → Prop} {w w' : World} {v : Value} {l : List Tree} {x : Nat → Option Addr × Nat} (h : NRow N S w v l x) (hB : Below w.heap.size w w') : NRow N S w' v l x :=
  ⟨own_below h.ro hB, fun i hi => (h.reps i hi).move (fun k _ hk => hB.block k hk) (fun k hk _ => hk)⟩
/-- a store into another block -/
theorem NRow.stay {N : Nat} {S : Nat → Prop} {w w' : World} {v : Value} {l : List Tree} {x : Nat → Option Addr × Nat} {b : Nat} (h : NRow N S w v l x) (hb : v.ownBlock ≠ some b) (hs : ∀ k, S k → k ≠ b) (he : ∀ k, k ≠ b → w'.heap[k]? = w.heap[k]?) : NRow N S w' v l x :=
  ⟨own_keep h.ro (fun k hk _ => he k (fun e => hb (by rw [hk, e]))), fun i hi => (h.reps i hi).move (fun k hk _ => he k (hs k hk.1)) (fun k hk _ => hk)⟩
/-- several nodes more -/
theorem NRow.push {N : Nat} {S : Nat → Prop} {w V w2 : World} {v v2 : Value} {l m : List Tree} {x y : Nat → Option Addr × Nat} (h : NRow N S w v l x) (hB : Below w.heap.size w V) (hm : ∀ i, i < m.length → RepIn (fun k => S k ∧ v.ownBlock ≠ some k) V (m.getD i noT) (y i).1)
    (hg : V.grownBy w2 v.ownBlock) (hp : v2.ownBlock = v.ownBlock ∨ v2.ownBlock = some V.heap.size) (ho : w2.ownsRow N 50 4 v2 (l.length + m.length) (rowsTo (fun i => l.getD i noT) x l.length ++ rowsTo (fun i => m.getD i noT) y m.length)) :
    NRow N S w2 v2 (l ++ m) (fun i => if i < l.length then x i else y (i - l.length)) := by
  have ne : ∀ k, k < V.heap.size → v.ownBlock ≠ some k → v2.ownBlock ≠ some k := fun k hk hn e => by
    rcases hp with hp | hp
    · rw [hp] at e; exact hn e
    · rw [hp] at e; cases e; omega
  refine ⟨?_, fun i hi => ?_⟩
  · have e : rowsTo (fun i => (l ++ m).getD i noT) (fun i => if i < l.length then x i else y (i - l.length)) (l.length + m.length) = rowsTo (fun i => l.getD i noT) x l.length ++ rowsTo (fun i => m.getD i noT) y m.length := by
      rw [rowsTo_add]
      congr 1
      · rw [rowsTo_congr (x := fun i => if i < l.length then x i else y (i - l.length)) (y := x) (fun i hi => if_pos hi)]
        exact rowsTo_kids (fun i hi => by rw [List.getD_eq_getElem?_getD, List.getElem?_append_left hi, ← List.getD_eq_getElem?_getD])
      · rw [rowsTo_congr (x := fun i => if l.length + i < l.length then x (l.length + i) else y (l.length + i - l.length)) (y := y) (fun i hi => by rw [if_neg (by omega)]; congr 1; omega)]
        exact rowsTo_kids (fun i hi => by rw [List.getD_eq_getElem?_getD, List.getElem?_append_right (by omega), ← List.getD_eq_getElem?_getD]; congr 1; omega)
    rw [List.length_append, e]
    exact ho
  · rw [List.length_append] at hi
    by_cases hlt : i < l.length
    · rw [if_pos hlt, List.getD_eq_getElem?_getD, List.getElem?_append_left hlt, ← List.getD_eq_getElem?_getD]
      exact (h.reps i hlt).move (fun k hk hkl => (hg.block k (by have := hB.size; omega) (fun e => hk.2 e.symm)).trans (hB.block k hkl)) (fun k hk hkl => ⟨hk.1, ne k (by have := hB.size; omega) hk.2⟩)
    · rw [if_neg hlt, List.getD_eq_getElem?_getD, List.getElem?_append_right (by omega), ← List.getD_eq_getElem?_getD]
      exact (hm (i - l.length) (by omega)).move (fun k hk hkl => hg.block k hkl (fun e => hk.2 e.symm)) (fun k hk hkl => ⟨hk.1, ne k hkl hk.2⟩)
/-- a node out of such a row -/
theorem NRow.at_ {N : Nat} {S : Nat → Prop} {w : World} {a : Option Addr} {n c : Nat} {l : List Tree} {x : Nat → Option Addr × Nat} (h : NRow N S w (.slice a n c) l x) {i : Nat} (hi : i < l.length) : ∃ b, a = some ⟨b, 0, none⟩ ∧ N ≤ b ∧ NodeAt w b (0 + i * 4) (l.getD i noT) (x i).1 (x i).2 := by
  have e : n = l.length := by obtain ⟨_, _, e⟩ := own_val h.ro; injection e
  subst e
  obtain ⟨g, rfl, hg, _⟩ := own_at h.ro (by omega)
  have ca := fun d (hd : d < 4) => (h.ro.cellAt (i * 4 + d) (by omega)).trans (rowsTo_at (fun i => l.getD i noT) x hi d hd)
  have k0 := ca 0 (by omega)
  have k1 := ca 1 (by omega)
  have k2 := ca 2 (by omega)
  have k3 := ca 3 (by omega)
  rw [Nat.zero_add]
  exact ⟨g, rfl, hg, k0, k1, k2, k3⟩
theorem getD_map {f : Nat → Tree} {n i : Nat} (h : i < n) : ((List.range n).map f).getD i noT = f i := by simp [List.getD_eq_getElem?_getD, h]
theorem repl_fits {nm : ByteArray} {i : Int} (hi : isI64 i) {t : Tree} (h : t.Fits) : (t.repl nm i).Fits := by
  by_cases hh : t.kind = 2 ∧ t.name = nm
  · rw [repl_hit hh]
    exact ⟨by show (0 : Int) ≤ 1 ∧ (1 : Int) ≤ 255; omega, hi, by show (0 : Nat) ≤ _; omega, by show (0 : Nat) ≤ _; omega⟩
  · obtain ⟨h1, h2, h3, h4, _⟩ := repl_else (i := i) hh
    exact ⟨by rw [h1]; exact h.kind, by rw [h2]; exact h.num, by rw [h3]; exact h.name, by rw [h4]; exact h.len⟩
abbrev nodeObj (x0 x1 x2 x3 : Value) : Obj := .cells #[x0, x1, x2, x3] 50
theorem str_ne16 {a b : ByteArray} (h : a ≠ b) : (a.toList == b.toList) = false := by
  rw [beq_eq_false_iff_ne]
  intro e
  rw [ByteArray.toList_eq, ByteArray.toList_eq] at e
  exact h (ByteArray.ext (Array.toList_inj.1 e))
def ReplOf (t : Tree) (w : World) (e : Ending) (w' : World) : Prop := ∃ a c, e = .returned (t.val a c) ∧ RepIn (fun k => w.heap.size ≤ k) w' t a ∧ Below w.heap.size w w'
theorem replaced_any (nm : ByteArray) (n : Int) (hn : isI64 n) : ∀ (t : Tree) (w : World) (a : Option Addr) (c : Nat), Rep w t a → t.size ≤ 1000000 →
    Calls Tryd.prog 26 #[t.val a c, .string nm, .int .i64 n] w (ReplOf (t.repl nm n) w) := by
  intro t
  induction t using Tree.ind with
  | h t ih =>
    intro w a c hr hs
    obtain ⟨i0, hi, hz0, hz1, hz2⟩ := info_parts node_info
    have IH := Lib.hid ih
    have HFIT := Lib.hid hr.fits
    have HR := Lib.hid hr
    have hl := hr.fits.len
    have hls : t.len ≤ 1000000 := by
      have := Tree.size_eq t
      have h2 : ∀ (f : Nat → Nat) (n : Nat), (∀ i, 1 ≤ f i) → n ≤ Tree.sumTo f n := by
        intro f n hf
        induction n with
        | zero => exact Nat.zero_le _
        | succ n ihn => rw [Tree.sumTo_succ]; have := hf n; omega
      have := h2 (fun i => (t.kid i).size) t.len (fun i => Tree.size_pos _)
      omega
    have HSZ : Hid (∀ j, j < t.len → (t.kid j).size ≤ 1000000) := fun j hj => by have := Tree.size_kid hj; omega
    have HN := Lib.hid hn
    clear ih hr hs hn
    obtain ⟨W1, hW1⟩ : ∃ W : World, w.alloc (nodeObj (.int .u8 t.kind) (.int .i64 t.num) (.string t.name) (.slice a t.len c)) = W := ⟨_, rfl⟩
    obtain ⟨W2, hW2⟩ : ∃ W : World, W1.alloc zNode = W := ⟨_, rfl⟩
    have b1 : Below w.heap.size w W1 := by rw [← hW1]; exact mem_alloc _ _
    have b2 : Below W1.heap.size W1 W2 := by rw [← hW2]; exact mem_alloc _ _
    have HLT : Hid (w.heap.size < W1.heap.size ∧ W1.heap.size < W2.heap.size) := by
      refine ⟨?_, ?_⟩
      · rw [← hW1]; simp
      · rw [← hW2]; simp
    have HX1 : Hid (W2.heap[w.heap.size]? = some (nodeObj (.int .u8 t.kind) (.int .i64 t.num) (.string t.name) (.slice a t.len c))) := mem_keep (by rw [← hW1]; exact mem_new _ _) b2
    have HX2 : Hid (W2.heap[W1.heap.size]? = some zNode) := by show _ = _; rw [← hW2]; exact mem_new _ _
    have HB2 : Hid (Below w.heap.size w W2) := mem_then b1 b2
    obtain ⟨x0, x1, x2, x3⟩ := node_cells HX1.out
    clear b1 b2
    go_enter Tryd.func26, Tryd.ntmps26
    by_cases hh : t.kind = 2 ∧ t.name = nm
    · have hk : (t.kind == 2) = true := by simp [hh.1]
      have hnd : (t.name.toList == nm.toList) = true := by rw [hh.2]; simp
      have HE := Lib.hid (repl_hit (i := n) hh)
      obtain ⟨F, hF⟩ : ∃ F : World, set4 W2 W1.heap.size (.int .u8 1) (.int .i64 n) (.string ⟨#[]⟩) (.slice none 0 0) = F := ⟨_, rfl⟩
      have HF : Hid (F.heap[W1.heap.size]? = some (nodeObj (.int .u8 1) (.int .i64 n) (.string ⟨#[]⟩) (.slice none 0 0))) := by show _ = _; rw [← hF]; exact set4_at HX2.out
      have HBF : Hid (Below w.heap.size w F) := by show Below _ _ _; rw [← hF]; exact set4_below HB2.out (by have := HLT.out; omega)
      obtain ⟨y0, y1, y2, y3⟩ := node_cells HF.out
      obtain ⟨z0, z1, z2, z3⟩ := node_cells HX2.out
      have f0 := mem_free HX2.out 0
      have f1 := mem_free HX2.out 1
      have f2 := mem_free HX2.out 2
      have f3 := mem_free HX2.out 3
      unfold set4 at hF
      clear hh
      go_wp2_with fail
      refine bodyPost_ret (v := .agg #[.int .u8 1, .int .i64 n, .string ⟨#[]⟩, .slice none 0 0]) (by simp [results, Tryd.results26, go_sem, y0, y1, y2, y3]) rfl ?_
      rw [HE.out]
      exact ⟨none, 0, rfl, RepIn.mk (by have h := repl_fits (nm := nm) HN.out HFIT.out; rw [HE.out] at h; exact h) (.inl rfl), HBF.out⟩
    · have HE := Lib.hid (repl_else (i := n) hh)
      obtain ⟨W3, hW3⟩ : ∃ W : World, W2.alloc (nodeObj (.int .u8 t.kind) (.int .i64 t.num) (.string t.name) (.slice none 0 0)) = W := ⟨_, rfl⟩
      have b3 : Below W2.heap.size W2 W3 := by rw [← hW3]; exact mem_alloc _ _
      have hX3 : W3.heap[W2.heap.size]? = some (nodeObj (.int .u8 t.kind) (.int .i64 t.num) (.string t.name) (.slice none 0 0)) := by rw [← hW3]; exact mem_new _ _
      obtain ⟨W4, hW4⟩ : ∃ W : World, W3.setCell ⟨W2.heap.size, 3, none⟩ (.slice a t.len c) = W := ⟨_, rfl⟩
      have hX4 : W4.heap[W2.heap.size]? = some (nodeObj (.int .u8 t.kind) (.int .i64 t.num) (.string t.name) (.slice a t.len c)) := by rw [← hW4, mem_set hX3]; rfl
      obtain ⟨W5, hW5⟩ : ∃ W : World, W4.setCell ⟨W2.heap.size, 3, none⟩ (.slice none 0 0) = W := ⟨_, rfl⟩
      have HX5 : Hid (W5.heap[W2.heap.size]? = some (nodeObj (.int .u8 t.kind) (.int .i64 t.num) (.string t.name) (.slice none 0 0))) := by show _ = _; rw [← hW5, mem_set hX4]; rfl
      have HY1 : Hid (W5.heap[w.heap.size]? = some (nodeObj (.int .u8 t.kind) (.int .i64 t.num) (.string t.name) (.slice a t.len c)) ∧ W5.heap[W1.heap.size]? = some zNode) := by
        have h1 := HLT.out
        show _ ∧ _
        rw [← hW5, ← hW4]
        refine ⟨?_, ?_⟩
        · rw [Below.heap_setCell _ _ _ _ (by show w.heap.size ≠ W2.heap.size; omega), Below.heap_setCell _ _ _ _ (by show w.heap.size ≠ W2.heap.size; omega)]; exact mem_keep HX1.out b3
        · rw [Below.heap_setCell _ _ _ _ (by show W1.heap.size ≠ W2.heap.size; omega), Below.heap_setCell _ _ _ _ (by show W1.heap.size ≠ W2.heap.size; omega)]; exact mem_keep HX2.out b3
      have HB3 : Hid (Below w.heap.size w W5) := by
        have h1 := HLT.out
        show Below _ _ _
        rw [← hW5, ← hW4]
        exact ((mem_then HB2.out b3).setCell (p := ⟨W2.heap.size, 3, none⟩) (by show w.heap.size ≤ W2.heap.size; omega) _).setCell (p := ⟨W2.heap.size, 3, none⟩) (by show w.heap.size ≤ W2.heap.size; omega) _
      have HLT3 : Hid (W2.heap.size < W5.heap.size) := mem_lt HX5.out
      obtain ⟨z0, z1, z2, z3⟩ := node_cells HY1.out.1
      obtain ⟨p0, p1, p2, p3⟩ := node_cells hX3
      obtain ⟨r0, r1, r2, r3⟩ := node_cells hX4
      have f3 := mem_free hX3 3
      have g3 := mem_free hX4 3
      have hcond : ((t.kind == 2) = true ∧ (t.name.toList == nm.toList) = false) ∨ (t.kind == 2) = false := by
        by_cases h2 : t.kind = 2
        · exact .inl ⟨by simp [h2], str_ne16 (fun e => hh ⟨h2, e⟩)⟩
        · exact .inr (by rw [beq_eq_false_iff_ne]; exact h2)
      clear hh b3 hX3 hX4
      have HL : Hid (∀ j : Nat, j < t.len → ((kidsL t).map (Tree.repl nm n)).take (j + 1) = ((kidsL t).map (Tree.repl nm n)).take j ++ [(t.kid j).repl nm n]) := fun j hj => by
        rw [List.take_add_one]
        congr 1
        unfold kidsL
        simp [hj]
      have HLL : Hid (∀ j : Nat, j ≤ t.len → (((kidsL t).map (Tree.repl nm n)).take j).length = j) := fun j hj => by
        rw [List.length_take, List.length_map, kidsL_len]; omega
      rcases hcond with ⟨hk, hnd⟩ | hk
      all_goals
        go_wp2_with fail
        clear x0 x1 x2 x3 z0 z1 z2 z3 p0 p1 p2 p3 r0 r1 r2 r3 f3 g3 hW1 hW2 hW3 hW4 hW5
        go_loopw [26] (fun iv wr => ∃ (j : Nat) (v : Value) (x : Nat → Option Addr × Nat), j ≤ t.len ∧ iv = .int .i64 (j : Int) ∧ (wr.heap[w.heap.size]? = some (nodeObj (.int .u8 t.kind) (.int .i64 t.num) (.string t.name) (.slice a t.len c)) ∧ wr.heap[W1.heap.size]? = some zNode ∧ wr.heap[W2.heap.size]? = some (nodeObj (.int .u8 t.kind) (.int .i64 t.num) (.string t.name) v)) ∧ NRow W5.heap.size (fun k => W5.heap.size ≤ k) wr v (((kidsL t).map (Tree.repl nm n)).take j) x ∧ Below w.heap.size w wr ∧ W5.heap.size ≤ wr.heap.size) (fun iv _ => t.len - (intOf iv).toNat)
        case atStart => exact ⟨0, _, _, Nat.zero_le _, rfl, ⟨HY1.out.1, HY1.out.2, HX5.out⟩, by rw [List.take_zero]; exact NRow.nil, HB3.out, Nat.le_refl _⟩
        case round =>
          obtain ⟨j, v, x, hj, rfl, hbx, hrow, hB, hsz⟩ := hrel
          have HBX := Lib.hid hbx
          have HROW := Lib.hid hrow
          have HB := Lib.hid hB
          have HWS := Lib.hid hsz
          have hj0 : (0 : Int) ≤ (j : Int) := by omega
          have hro := hrow.ro
          rw [HLL.out j hj] at hro
          obtain ⟨va, vc, rfl⟩ := own_val hro
          have HRO := Lib.hid hro
          clear hbx hrow hB hsz hro
          by_cases hlt : j < t.len
          · have hlt2 : (j : Int) < (t.len : Int) := by omega
            obtain ⟨b, off, rfl, hkk⟩ := HR.out.kids.resolve_left (by omega)
            obtain ⟨ai, ci, hnode, hkr⟩ := hkk j hlt
            have hnb := hnode.lt
            obtain ⟨n0, n1, n2, n3⟩ := hnode.below HB.out hnb
            have hnb2 : b < wr.heap.size := by have := HB.out.size; omega
            have HKR := Lib.hid (hkr.below HB.out)
            obtain ⟨V, hV⟩ : ∃ V : World, wr.alloc (nodeObj (.int .u8 (t.kid j).kind) (.int .i64 (t.kid j).num) (.string (t.kid j).name) (.slice ai (t.kid j).len ci)) = V := ⟨_, rfl⟩
            have hBV : Below wr.heap.size wr V := by rw [← hV]; exact mem_alloc _ _
            have HXV : Hid (V.heap[wr.heap.size]? = some (nodeObj (.int .u8 (t.kid j).kind) (.int .i64 (t.kid j).num) (.string (t.kid j).name) (.slice ai (t.kid j).len ci))) := by show _ = _; rw [← hV]; exact mem_new _ _
            have HBV := Lib.hid hBV
            clear hkk hnode hkr hBV
            go_upto_region 8 with fail
            clear n0 n1 n2 n3 hV
            have hD0 : Below V.heap.size V (World.drew V) := (Below.refl _ _).drew
            refine wp_region_z 9 (S := fun w' => Below w.heap.size w w' ∧ w'.heap[W2.heap.size]? = some (nodeObj (.int .u8 t.kind) (.int .i64 t.num) (.string t.name) (.slice va j vc)) ∧ w'.heap[wr.heap.size]? = some (nodeObj (.int .u8 (t.kid j).kind) (.int .i64 (t.kid j).num) (.string (t.kid j).name) (.slice ai (t.kid j).len ci))) (by kernel_rfl) ⟨mem_then HB.out (mem_then HBV.out hD0), mem_keep HBX.out.2.2 (mem_then HBV.out hD0), mem_keep HXV.out hD0⟩ (fun hHeld => ?_)
            generalize hwd : World.drew V = v1 at hHeld hD0 ⊢
            clear hwd
            have HD0 := Lib.hid (mem_then HBV.out hD0)
            have HXD := Lib.hid (mem_keep HXV.out hD0)
            clear hD0
            refine wpAnyZ_take (i := 0) (v := .pointer (some ⟨W2.heap.size, 3, none⟩)) rfl (by kernel_rfl) (by kernel_rfl) (by kernel_rfl) (by kernel_rfl) (fun _ _ _ h => h) (Or.inl ⟨by rfl, ?_⟩) (by assumption) ?_
            · intro w' hSw; go_simp
            (try simp only [Act.put, List.getElem_toArray, List.getElem_cons_zero, List.setIfInBounds_toArray, List.set_cons_zero, List.set_cons_succ])
            refine wpAnyZ_take (i := 1) (v := .slice va j vc) rfl (by kernel_rfl) (by kernel_rfl) (by kernel_rfl) (by kernel_rfl) (fun _ _ _ h => h) (Or.inl ⟨by rfl, ?_⟩) (by assumption) ?_
            · intro w' hSw; obtain ⟨q0, q1, q2, q3⟩ := node_cells hSw.2.1; go_simp
            (try simp only [Act.put, List.getElem_toArray, List.getElem_cons_zero, List.getElem_cons_succ, List.setIfInBounds_toArray, List.set_cons_zero, List.set_cons_succ])
            refine wpAnyZ_take (i := 2) (v := (t.kid j).val ai ci) rfl (by kernel_rfl) (by kernel_rfl) (by kernel_rfl) (by kernel_rfl) (fun _ _ _ h => h) (Or.inl ⟨by rfl, ?_⟩) (by assumption) ?_
            · intro w' hSw; obtain ⟨q0, q1, q2, q3⟩ := node_cells hSw.2.2; go_simp
            (try simp only [Act.put, List.getElem_toArray, List.getElem_cons_zero, List.getElem_cons_succ, List.setIfInBounds_toArray, List.set_cons_zero, List.set_cons_succ])
            refine wpAnyZ_take (i := 3) (v := .string nm) rfl (by kernel_rfl) (by kernel_rfl) (by kernel_rfl) (by kernel_rfl) (fun _ _ _ h => h) (Or.inl ⟨by rfl, ?_⟩) (by assumption) ?_
            · intro w' hSw; go_simp
            (try simp only [Act.put, List.getElem_toArray, List.getElem_cons_zero, List.getElem_cons_succ, List.setIfInBounds_toArray, List.set_cons_zero, List.set_cons_succ])
            refine wpAnyZ_take (i := 4) (v := .int .i64 n) rfl (by kernel_rfl) (by kernel_rfl) (by kernel_rfl) (by kernel_rfl) (fun _ _ _ h => h) (Or.inl ⟨by rfl, ?_⟩) (by assumption) ?_
            · intro w' hSw; go_simp
            (try simp only [Act.put, List.getElem_toArray, List.getElem_cons_zero, List.getElem_cons_succ, List.setIfInBounds_toArray, List.set_cons_zero, List.set_cons_succ])
            refine wpAnyZ_ready (rs := [5]) (by kernel_rfl) (by simp) (AllReadyZ.cons rfl (fun K hK => ?_) AllReadyZ.nil)
            go_simp
            refine (IH.out j hlt v1 ai ci (HKR.out.below HD0.out) (HSZ.out j hlt)).mono ?_
            rintro e w5 ⟨a5, c5, rfl, hr5, hB5⟩
            have HB5 := Lib.hid (mem_then HD0.out hB5)
            have HR5 := Lib.hid hr5
            have HXD5 := Lib.hid (mem_keep HXD.out hB5)
            have HD1 : Hid (wr.heap.size ≤ v1.heap.size) := HD0.out.size
            clear hr5 hB5
            refine hK.out _ _ (⟨mem_then HB.out HB5.out, mem_keep HBX.out.2.2 HB5.out, HXD5.out⟩) (fun hHeld => ?_)
            clear hK K
            rename_i hOld
            clear hOld
            (try simp only [Act.put, List.getElem_toArray, List.getElem_cons_zero, List.getElem_cons_succ, List.setIfInBounds_toArray, List.set_cons_zero, List.set_cons_succ])
            refine wpAnyZ_ready (rs := [6]) (by kernel_rfl) (by simp) (AllReadyZ.cons rfl (fun K hK => ?_) AllReadyZ.nil)
            go_simp
            obtain ⟨v6, hv6⟩ : ∃ V : World, w5.alloc (.cells #[.int .u8 ((t.kid j).repl nm n).kind, .int .i64 ((t.kid j).repl nm n).num, .string ((t.kid j).repl nm n).name, .slice a5 ((t.kid j).repl nm n).len c5] 50) = V := ⟨_, rfl⟩
            rw [hv6]
            have hB6 : Below w5.heap.size w5 v6 := by rw [← hv6]; exact mem_alloc _ _
            have HX6 : Hid (v6.heap[w5.heap.size]? = some (.cells #[.int .u8 ((t.kid j).repl nm n).kind, .int .i64 ((t.kid j).repl nm n).num, .string ((t.kid j).repl nm n).name, .slice a5 ((t.kid j).repl nm n).len c5] 50)) := by show _ = _; rw [← hv6]; exact mem_new _ _
            have HB6 := Lib.hid (mem_then HB5.out hB6)
            have HR6 := Lib.hid (RepIn.move (S' := fun k => v1.heap.size ≤ k) (fun k _ hk => hB6.block k hk) (fun k hk _ => hk) HR5.out)
            have HXD6 := Lib.hid (mem_keep HXD5.out hB6)
            clear hv6 hB6
            refine hK.out _ _ (⟨mem_then HB.out HB6.out, mem_keep HBX.out.2.2 HB6.out, HXD6.out⟩) (fun hHeld => ?_)
            clear hK K
            rename_i hOld
            clear hOld
            (try simp only [Act.put, List.getElem_toArray, List.getElem_cons_zero, List.getElem_cons_succ, List.setIfInBounds_toArray, List.set_cons_zero, List.set_cons_succ])
            refine wpAnyZ_ready (rs := [7]) (by kernel_rfl) (by simp) (AllReadyZ.cons rfl (fun K hK => ?_) AllReadyZ.nil)
            refine step_append_src _ rfl (.tmp 31) (.tmp 36) 48 rfl W5.heap.size 50 i0 _ 4 56 Tryd.underlying48 hi hz0 hz1 hz2 rfl (by decide) (.slice va j vc) j _ (by simp [Act.eval]) (own_below HRO.out HB6.out) (some ⟨w5.heap.size, 0, none⟩) 1 1 (((t.kid j).repl nm n).row (a5, c5)) (by simp [Act.eval]) (src_new HX6.out rfl) (by intro u hu; simp [Tree.row] at hu; rcases hu with rfl | rfl | rfl | rfl <;> rfl) (by unfold maxLen; omega) (by omega) (Nat.le_trans HWS.out HB6.out.size) ?_
            intro r9 w9 hown hgrow hplace
            obtain ⟨ra9, rc9, rfl⟩ := own_val hown
            have hN9 : NRow W5.heap.size (fun k => W5.heap.size ≤ k) w9 (.slice ra9 (j + 1) rc9) (((kidsL t).map (Tree.repl nm n)).take (j + 1)) (fun i => if i < (((kidsL t).map (Tree.repl nm n)).take j).length then x i else (a5, c5)) := by
              rw [HL.out j hlt]
              refine HROW.out.push HB6.out (m := [(t.kid j).repl nm n]) (y := fun _ => (a5, c5)) (fun i hi => ?_) hgrow hplace ?_
              · have hi1 : i < 1 := hi
                obtain rfl : i = 0 := by omega
                refine HR6.out.mono (fun k hk => ⟨by have := HWS.out; have := HD1.out; omega, fun e => ?_⟩)
                have h1 := (own_lt HRO.out e).2
                have h2 := HD1.out
                omega
              · rw [HLL.out j hj]
                exact hown
            have keep9 : ∀ (k : Nat) o, wr.heap[k]? = some o → k < W5.heap.size → w9.heap[k]? = some o := fun k o hk hlt => by
              have h1 := mem_keep hk HB6.out
              exact (hgrow.block k (mem_lt h1) (fun e => by have := (own_lt (own_below HRO.out HB6.out) e.symm).1; omega)).trans h1
            have hl3 := HLT3.out
            have hl12 := HLT.out
            have hX9 : w9.heap[w.heap.size]? = some (nodeObj (.int .u8 t.kind) (.int .i64 t.num) (.string t.name) (.slice (some ⟨b, off, none⟩) t.len c)) ∧ w9.heap[W1.heap.size]? = some zNode ∧ w9.heap[W2.heap.size]? = some (nodeObj (.int .u8 t.kind) (.int .i64 t.num) (.string t.name) (.slice va j vc)) := ⟨keep9 _ _ HBX.out.1 (by omega), keep9 _ _ HBX.out.2.1 (by omega), keep9 _ _ HBX.out.2.2 (by omega)⟩
            have hB9 : Below w.heap.size w w9 := (mem_then HB.out HB6.out).grown hgrow (mem_then HB.out HB6.out).size (fun b hb => by have := (own_lt (own_below HRO.out HB6.out) hb).1; omega)
            have HXV9 : Hid (w9.heap[wr.heap.size]? = some (nodeObj (.int .u8 (t.kid j).kind) (.int .i64 (t.kid j).num) (.string (t.kid j).name) (.slice ai (t.kid j).len ci))) := (hgrow.block _ (mem_lt HXD6.out) (fun e => by have := (own_lt HRO.out e.symm).2; omega)).trans HXD6.out
            have hO9 : (Value.slice ra9 (j + 1) rc9).ownBlock ≠ some W2.heap.size := fun e => by have := (own_lt hown e).1; omega
            obtain ⟨F, hF⟩ : ∃ F : World, w9.setCell ⟨W2.heap.size, 3, none⟩ (.slice ra9 (j + 1) rc9) = F := ⟨_, rfl⟩
            have HXF : Hid (F.heap[w.heap.size]? = some (nodeObj (.int .u8 t.kind) (.int .i64 t.num) (.string t.name) (.slice (some ⟨b, off, none⟩) t.len c)) ∧ F.heap[W1.heap.size]? = some zNode ∧ F.heap[W2.heap.size]? = some (nodeObj (.int .u8 t.kind) (.int .i64 t.num) (.string t.name) (.slice ra9 (j + 1) rc9))) := by
              show _ ∧ _
              rw [← hF]
              refine ⟨?_, ?_, ?_⟩
              · rw [Below.heap_setCell _ _ _ _ (by show w.heap.size ≠ W2.heap.size; omega)]; exact hX9.1
              · rw [Below.heap_setCell _ _ _ _ (by show W1.heap.size ≠ W2.heap.size; omega)]; exact hX9.2.1
              · rw [mem_set hX9.2.2]; rfl
            have HNF : Hid (NRow W5.heap.size (fun k => W5.heap.size ≤ k) F (.slice ra9 (j + 1) rc9) (((kidsL t).map (Tree.repl nm n)).take (j + 1)) (fun i => if i < (((kidsL t).map (Tree.repl nm n)).take j).length then x i else (a5, c5))) := hN9.stay hO9 (fun k hk => by omega) (fun k hk => by rw [← hF, Below.heap_setCell _ _ _ _ hk])
            have HBF : Hid (Below w.heap.size w F) := by show Below _ _ _; rw [← hF]; exact hB9.setCell (p := ⟨W2.heap.size, 3, none⟩) (by show w.heap.size ≤ W2.heap.size; omega) _
            have HSF : Hid (W5.heap.size ≤ F.heap.size) := by have h1 := HWS.out; have h2 := HB6.out.size; have h3 := hgrow.size; show _ ≤ _; rw [← hF]; simp; omega
            have HX9 := Lib.hid hX9
            have HB9 := Lib.hid hB9
            clear hN9 keep9 hX9 hB9 hO9 hown hgrow hplace hl3 hl12
            refine hK.out _ _ (⟨HB9.out, HX9.out.2.2, HXV9.out⟩) (fun hHeld => ?_)
            clear hK K
            rename_i hOld
            clear hOld
            (try simp only [Act.put, List.getElem_toArray, List.getElem_cons_zero, List.getElem_cons_succ, List.setIfInBounds_toArray, List.set_cons_zero, List.set_cons_succ])
            refine wpAnyZ_take (i := 8) (v := .pointer (some ⟨W2.heap.size, 3, none⟩)) rfl (by kernel_rfl) (by kernel_rfl) (by kernel_rfl) (by kernel_rfl) (fun _ _ _ h => h) (Or.inl ⟨by rfl, ?_⟩) (by assumption) ?_
            · intro w' hSw; go_simp
            (try simp only [Act.put, List.getElem_toArray, List.getElem_cons_zero, List.getElem_cons_succ, List.setIfInBounds_toArray, List.set_cons_zero, List.set_cons_succ])
            obtain ⟨q0, q1, q2, q3⟩ := node_cells HX9.out.2.2
            have f3 := mem_free HX9.out.2.2 3
            refine wpAnyZ_ready (rs := [9]) (by kernel_rfl) (by simp) (AllReadyZ.last rfl (by decide) (fun K hK => ?_) AllReadyZ.nil)
            go_simp
            refine hK.out _ _ ?_
            clear hK K
            (try simp only [Act.put, List.getElem_toArray, List.getElem_cons_zero, List.getElem_cons_succ, List.setIfInBounds_toArray, List.set_cons_zero, List.set_cons_succ])
            try rw [hF]
            clear q0 q1 q2 q3 f3 hHeld hF
            refine wpAnyZ_done (by kernel_rfl) ?_ _
            go_wp2_with fail
            go_roundw
            case rel => exact ⟨j + 1, .slice ra9 (j + 1) rc9, _, by omega, by go_num, HXF.out, HNF.out, HBF.out, HSF.out⟩
            case measure => simp [intOf]; omega
          · obtain rfl : j = t.len := by omega
            obtain ⟨z0, z1, z2, z3⟩ := node_cells HBX.out.2.1
            have f0 := mem_free HBX.out.2.1 0
            have f1 := mem_free HBX.out.2.1 1
            have f2 := mem_free HBX.out.2.1 2
            have f3 := mem_free HBX.out.2.1 3
            obtain ⟨y0, y1, y2, y3⟩ := node_cells HBX.out.2.2
            obtain ⟨F, hF⟩ : ∃ F : World, set4 wr W1.heap.size (.int .u8 t.kind) (.int .i64 t.num) (.string t.name) (.slice va t.len vc) = F := ⟨_, rfl⟩
            have HF : Hid (F.heap[W1.heap.size]? = some (nodeObj (.int .u8 t.kind) (.int .i64 t.num) (.string t.name) (.slice va t.len vc))) := by show _ = _; rw [← hF]; exact set4_at HBX.out.2.1
            have HBF : Hid (Below w.heap.size w F) := by show Below _ _ _; rw [← hF]; exact set4_below HB.out (by have := HLT.out; omega)
            have HFAR : Hid (∀ k, k ≠ W1.heap.size → F.heap[k]? = wr.heap[k]?) := fun k hk => by rw [← hF]; exact set4_far hk
            obtain ⟨p0, p1, p2, p3⟩ := node_cells HF.out
            unfold set4 at hF
            go_wp2_with fail
            refine bodyPost_ret (v := .agg #[.int .u8 t.kind, .int .i64 t.num, .string t.name, .slice va t.len vc]) (by simp [results, Tryd.results26, go_sem, p0, p1, p2, p3]) rfl ?_
            obtain ⟨e1, e2, e3, e4, e5⟩ := HE.out
            have hl3 := HLT3.out
            have hl12 := HLT.out
            refine ⟨va, vc, by show _ = Ending.returned (.agg #[.int .u8 (t.repl nm n).kind, .int .i64 (t.repl nm n).num, .string (t.repl nm n).name, .slice va (t.repl nm n).len vc]); rw [e1, e2, e3, e4], ?_, HBF.out⟩
            have htk : ((kidsL t).map (Tree.repl nm n)).take t.len = (kidsL t).map (Tree.repl nm n) := List.take_of_length_le (by rw [List.length_map, kidsL_len]; exact Nat.le_refl _)
            have hrow := HROW.out
            rw [htk] at hrow
            have hrF := hrow.stay (w' := F) (b := W1.heap.size) (fun e => by have := (own_lt HRO.out e).1; omega) (fun k hk => by omega) HFAR.out
            refine RepIn.mk (repl_fits HN.out HFIT.out) ?_
            by_cases h0 : t.len = 0
            · exact .inl (by rw [e4]; exact h0)
            · have hlen : ((kidsL t).map (Tree.repl nm n)).length = t.len := by rw [List.length_map, kidsL_len]
              obtain ⟨g, hva, hg, _⟩ := hrF.at_ (i := 0) (by omega)
              refine .inr ⟨g, 0, hva, by have := HB3.out.size; omega, fun i hi => ?_⟩
              rw [e4] at hi
              obtain ⟨g', hva', _, hnd⟩ := hrF.at_ (i := i) (by omega)
              rw [hva] at hva'
              cases hva'
              have hget : ((kidsL t).map (Tree.repl nm n)).getD i noT = (t.repl nm n).kid i := by
                rw [e5 i hi]
                unfold kidsL
                simp [List.getD_eq_getElem?_getD, hi]
              have hrep := hrF.reps i (by omega)
              rw [hget] at hnd hrep
              exact ⟨_, _, hnd, hrep.mono (fun k hk => by have := HB3.out.size; have := hk.1; omega)⟩
end Go.Proofs.YtgochgcchkdlmaaDoor
