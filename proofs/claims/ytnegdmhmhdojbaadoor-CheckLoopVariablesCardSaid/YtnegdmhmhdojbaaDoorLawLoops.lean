/-
  The law CheckLoopVariables: an assignment to the variable of a loop inside of the loop is a fault.
-/
import Derived.Test.YtnegdmhmhdojbaaDoorChkLoopP
import Derived.Test.YtnegdmhmhdojbaaDoorSmalls
import Derived.Test.YtnegdmhmhdojbaaDoorChkAwake
import Derived.Test.YtnegdmhmhdojbaaDoorApps
namespace Go.Proofs.YtnegdmhmhdojbaaDoor
set_option linter.unusedVariables false
set_option linter.unusedSimpArgs false
open Go.RowKit
set_option maxRecDepth 100000
set_option maxHeartbeats 80000000

theorem lint_info : (Tryd.prog.info? 3).map (fun i => (i.zero, i.size, i.bytes)) = some (some (.int .i64 0), 1, 8) := by kernel_rfl
def isForF (x : Tree) : Bool := decide (x.kind = 42)
theorem isFor_any (x : Tree) (w : World) (a : Option Addr) (c : Nat) (hx : Rep w x a) :
    Calls Tryd.prog 38 (#[x.val a c] ++ #[]) w fun e w' => e = .returned (.bool (isForF x)) ∧ Below w.heap.size w w' := by
  rw [show (#[x.val a c] ++ #[] : Array Value) = #[x.val a c] from rfl]
  have hfit := hx.fits
  clear hx
  go_enter Tryd.func38, Tryd.ntmps38
  by_cases h1 : x.kind = 42
  · have hb1 : (x.kind == 42) = true := by simp [h1]
    have HE : Hid (isForF x = true) := decide_eq_true h1
    clear h1
    go_wp2_with fail
    go_ret
    exact ⟨by rw [HE.out]; rfl, mem_alloc _ _⟩
  · have hb1 : (x.kind == 42) = false := by simpa using h1
    have HE : Hid (isForF x = false) := decide_eq_false h1
    clear h1
    go_wp2_with fail
    go_ret
    exact ⟨by rw [HE.out]; rfl, mem_alloc _ _⟩
theorem addr_addL (b o j : Nat) : (⟨b, o, none⟩ : Addr).add j = ⟨b, o + j, none⟩ := by
  unfold Addr.add; split <;> simp_all
theorem rowsTo_appL (kid : Nat → Tree) (x : Nat → Option Addr × Nat) (n m : Nat) : rowsTo kid x n ++ rowsTo (fun i => kid (n + i)) (fun i => x (n + i)) m = rowsTo kid x (n + m) := by
  induction m with
  | zero => simp [rowsTo]
  | succ m ih => rw [← Nat.add_assoc]; simp only [rowsTo]; rw [← List.append_assoc, ih]
theorem rowsTo_sameL {kid kid' : Nat → Tree} {x y : Nat → Option Addr × Nat} {n : Nat} (h : ∀ i, i < n → kid i = kid' i ∧ x i = y i) : rowsTo kid x n = rowsTo kid' y n := by
  induction n with
  | zero => rfl
  | succ n ih => simp only [rowsTo]; rw [ih (fun i hi => h i (by omega)), (h n (by omega)).1, (h n (by omega)).2]
theorem rowsTo_oneL {kid : Nat → Tree} {x : Nat → Option Addr × Nat} {n : Nat} : ∀ u ∈ rowsTo kid x n, u.oneCell' = true := by
  induction n with
  | zero => intro u hu; cases hu
  | succ n ih => intro u hu; rcases List.mem_append.1 hu with hu | hu
                 · exact ih u hu
                 · exact row_one _ _ u hu
theorem kids_cellsL {w : World} {t : Tree} {b off : Nat} {x : Nat → Option Addr × Nat} (h : ∀ i, i < t.len → NodeAt w b (off + i * 4) (t.kid i) (x i).1 (x i).2) {lo m : Nat} (hm : lo + m ≤ t.len) :
    ∀ j u, (rowsTo (fun i => t.kid (lo + i)) (fun i => x (lo + i)) m)[j]? = some u → w.cell? ((⟨b, off + lo * 4, none⟩ : Addr).add j) = some u := by
  intro j u hu
  have hj : j < m * 4 := by have := (List.getElem?_eq_some_iff.1 hu).1; rwa [rowsTo_len] at this
  obtain ⟨i, d, rfl, hd⟩ : ∃ i d, j = i * 4 + d ∧ d < 4 := ⟨j / 4, j % 4, by omega, by omega⟩
  rw [rowsTo_at _ _ (by omega) d hd] at hu
  have hn := h (lo + i) (by omega)
  have hadd : (⟨b, off + lo * 4, none⟩ : Addr).add (i * 4 + d) = ⟨b, off + (lo + i) * 4 + d, none⟩ := by
    rw [addr_addL]; congr 1; omega
  rw [hadd]
  match d, hd with
  | 0, _ => simp [Tree.row] at hu; subst hu; exact hn.kind
  | 1, _ => simp [Tree.row] at hu; subst hu; exact hn.num
  | 2, _ => simp [Tree.row] at hu; subst hu; exact hn.name
  | 3, _ => simp [Tree.row] at hu; subst hu; exact hn.kids
theorem rep_of_rowL {w : World} {base n : Nat} {v : Value} {f : Nat → Tree} {x : Nat → Option Addr × Nat} (h : w.ownsRow base 43 4 v n (rowsTo f x n)) (hr : ∀ i, i < n → Rep w (f i) (x i).1) (hn : n ≤ 1000000) :
    ∃ a c, v = .slice a n c ∧ Rep w (Tree.make 47 0 ⟨#[]⟩ n f) a := by
  have hf : (Tree.make 47 0 ⟨#[]⟩ n f).Fits := ⟨⟨by show (0 : Int) ≤ 47; decide, by show (47 : Int) ≤ 255; decide⟩, ⟨by show _ ≤ (0 : Int); decide, by show (0 : Int) ≤ _; decide⟩, by show 0 ≤ _; omega, by show n ≤ _; omega⟩
  rcases ownsRow_form h with ⟨rfl, rfl⟩ | ⟨g, cap, rfl, hg, hlt, hc⟩
  · exact ⟨none, 0, rfl, Rep.mk hf (.inl rfl)⟩
  · refine ⟨_, _, rfl, Rep.mk hf (.inr ⟨g, 0, rfl, fun i hi => ⟨(x i).1, (x i).2, ?_, ?_⟩⟩)⟩
    · have hi' : i < n := hi
      have hc : ∀ d, d < 4 → ∀ u, ((f i).row (x i))[d]? = some u → w.cell? ⟨g, 0 + i * 4 + d, none⟩ = some u := by
        intro d hd u hu
        have := h.cells (g := g) rfl (i * 4 + d) u (by rw [rowsTo_at _ _ hi' d hd]; exact hu)
        have hadd : (⟨g, 0, none⟩ : Addr).add (i * 4 + d) = ⟨g, 0 + i * 4 + d, none⟩ := by
          rw [addr_addL]; congr 1; omega
        rwa [hadd] at this
      have hk : (Tree.make 47 0 ⟨#[]⟩ n f).kid i = f i := Tree.make_kid hi'
      rw [hk]
      exact ⟨hc 0 (by omega) _ rfl, hc 1 (by omega) _ rfl, hc 2 (by omega) _ rfl, hc 3 (by omega) _ rfl⟩
    · have hk : (Tree.make 47 0 ⟨#[]⟩ n f).kid i = f i := Tree.make_kid hi
      rw [hk]; exact hr i hi

theorem varT_rep {w : World} {s : ByteArray} (h : s.size ≤ 9223372036854775807) : Rep w (varT s) none :=
  Rep.mk ⟨⟨by show (0 : Int) ≤ 2; omega, by show (2 : Int) ≤ 255; omega⟩, ⟨by show (-9223372036854775808 : Int) ≤ 0; omega, by show (0 : Int) ≤ 9223372036854775807; omega⟩, h, Nat.zero_le _⟩ (.inl rfl)
theorem numZ_rep {w : World} : Rep w numZ none := leaf_rep (by omega) (by omega) (by show (0 : Nat) ≤ 5; omega)
/-- the two statements that the law puts in -/
def stmtJ (s : ByteArray) (j : Nat) : Tree := if j = 0 then assignT s else inT s
theorem list12i {α : Type} {l : List α} (h : l.length = 12) : ∃ a0 a1 a2 a3 a4 a5 a6 a7 a8 a9 a10 a11, l = [a0, a1, a2, a3, a4, a5, a6, a7, a8, a9, a10, a11] := by
  match l, h with
  | [a0, a1, a2, a3, a4, a5, a6, a7, a8, a9, a10, a11], _ => exact ⟨a0, a1, a2, a3, a4, a5, a6, a7, a8, a9, a10, a11, rfl⟩
/-- 'append' in a drawn region, behind a guard that is met -/
theorem step_append_srcW {P : Program} (w : World) {ops : Array Oper} {o : Oper} {a : Act} {K : Act → World → Prop} {Q : Exit → Act → World → Prop} {E : Prop}
    (hw : Region.wanted o (yielded ops a.tmps) = true) (s x : Operand) (t : TypeId) (hop : o.op = Op.call { callee := Callee.builtin Builtin.append, args := #[s, x], argTypes := #[t, t] })
    (base : Nat) (e : TypeId) (i : TypeInfo) (z : Value) (size bytes : Nat) (ht : P.underlying t = some (.slice e)) (hi : P.info? e = some i) (hz : i.zero = some z)
    (hsize : i.size = size) (hby : i.bytes = bytes) (hzs : z.cells.size = size) (hsz : 0 < size) (v : Value) (n : Nat) (xs : List Value) (hs : a.eval s = v) (hown : w.ownsRow base e size v n xs)
    (A : Option Addr) (m c : Nat) (news : List Value) (hx : a.eval x = .slice A m c) (hr : Src w A m size news) (h1 : ∀ u ∈ news, u.oneCell' = true) (h63 : n + m ≤ maxLen) (hbytes : (n + m) * bytes ≤ 140737488355328) (hbase : base ≤ w.heap.size)
    (hK : ∀ v' w', w'.ownsRow base e size v' (n + m) (xs ++ news) → w.grownBy w' v.ownBlock → (v'.ownBlock = v.ownBlock ∨ v'.ownBlock = some w.heap.size) → K (a.put o.dst v') w') :
    if Region.wanted o (yielded ops a.tmps) = true then Oper.wp P o a w K Q else E := by
  rw [if_pos hw]
  obtain ⟨v', w', hrun, r1, r2, r3⟩ := run_append_src (P := P) w base t o.type e i z size bytes ht hi hz hsize hby hzs hsz v n xs hown A m c news hr h1 h63 hbytes hbase
  unfold Oper.wp
  simp [execOp, hop, resolve, invoke, builtin, hs, hx, hrun, Result.andThen]
  exact hK v' w' r1 r2 r3
def RunEnd2 (lo n s1 s2 : Nat) (P : Value → Value → World → Prop) (a a' : Act) (w' : World) : Prop := ∃ (l : List Value) (v1 v2 : Value), l.length = n ∧ a' = { a with tmps := ((putAll a.tmps lo l).setIfInBounds s1 v1).setIfInBounds s2 v2 } ∧ P v1 v2 w'
theorem forT_rep {w : World} {b : Nat} {s : ByteArray} {T : TypeId} (hb : w.heap[b]? = some (.cells #[.int .u8 47, .int .i64 0, .string ⟨#[]⟩, .slice none 0 0] T)) (hs : s.size ≤ 9223372036854775807) : Rep w (forT s) (some ⟨b, 0, none⟩) := by
  have hc := mem_cell hb
  refine Rep.mk ⟨⟨by show (0 : Int) ≤ 42; omega, by show (42 : Int) ≤ 255; omega⟩, ⟨by show (-9223372036854775808 : Int) ≤ 1; omega, by show (1 : Int) ≤ 9223372036854775807; omega⟩, hs, by show 1 ≤ _; omega⟩ (.inr ⟨b, 0, rfl, fun i hi => ?_⟩)
  have hi' : i < 1 := hi
  rw [show (forT s).kid i = emptyB from Tree.make_kid hi']
  obtain rfl : i = 0 := by omega
  exact ⟨none, 0, ⟨hc 0, hc 1, hc 2, hc 3⟩, leaf_rep (by omega) (by omega) (by show (0 : Nat) ≤ 5; omega)⟩
theorem list10i {α : Type} {l : List α} (h : l.length = 10) : ∃ a0 a1 a2 a3 a4 a5 a6 a7 a8 a9, l = [a0, a1, a2, a3, a4, a5, a6, a7, a8, a9] := by
  match l, h with
  | [a0, a1, a2, a3, a4, a5, a6, a7, a8, a9], _ => exact ⟨a0, a1, a2, a3, a4, a5, a6, a7, a8, a9, rfl⟩
theorem outT_rep {w : World} {b : Nat} {s : ByteArray} {T : TypeId} (hb : w.heap[b]? = some (.cells #[.int .u8 2, .int .i64 0, .string s, .slice none 0 0] T)) (hs : s.size ≤ 9223372036854775807) : Rep w (outT s) (some ⟨b, 0, none⟩) := by
  have h : Rep w (one1 (45 : Nat) ⟨#[]⟩ (varT s)) (some ⟨b, 0, none⟩) := one1_rep (c := 0) (a := none) hb (by omega) (by show (0 : Nat) ≤ 5; omega) (varT_rep hs)
  exact h
/-- the children of a node as a source -/
theorem rep_src {w : World} {t : Tree} {a : Option Addr} (h : Rep w t a) : ∃ x : Nat → Option Addr × Nat, Src w a t.len 4 (rowsTo t.kid x t.len) ∧ ∀ i, i < t.len → Rep w (t.kid i) (x i).1 := by
  rcases h.kids with h0 | ⟨b, off, rfl, hk⟩
  · exact ⟨fun _ => (none, 0), ⟨rowsTo_len _ _ _, .inl h0⟩, fun i hi => by omega⟩
  · have hx : ∀ i, ∃ y : Option Addr × Nat, i < t.len → NodeAt w b (off + i * 4) (t.kid i) y.1 y.2 ∧ Rep w (t.kid i) y.1 := fun i => by
      by_cases hi : i < t.len
      · obtain ⟨ai, ci, h1, h2⟩ := hk i hi
        exact ⟨(ai, ci), fun _ => ⟨h1, h2⟩⟩
      · exact ⟨(none, 0), fun h => absurd h hi⟩
    obtain ⟨x, hx⟩ := Classical.axiomOfChoice hx
    refine ⟨x, ⟨rowsTo_len _ _ _, .inr ⟨_, rfl, fun j u hu => ?_⟩⟩, fun i hi => (hx i hi).2⟩
    have h := kids_cellsL (lo := 0) (m := t.len) (fun i hi => (hx i hi).1) (by omega) j u (by
      have e1 : (fun i => t.kid (0 + i)) = t.kid := by funext i; rw [Nat.zero_add]
      have e2 : (fun i => x (0 + i)) = x := by funext i; rw [Nat.zero_add]
      rw [e1, e2]
      exact hu)
    rwa [Nat.zero_mul, Nat.add_zero] at h
theorem end_rep {w : World} {base cap : Nat} {t : Tsk} {s : Tree} {x : Nat → Option Addr × Nat} {y a : Option Addr} {yc : Nat}
    (h : w.ownsRow base 43 4 (.slice a (t.body.len + 1) cap) (t.body.len + 1) (rowsTo t.body.kid x t.body.len ++ [.int .u8 s.kind, .int .i64 s.num, .string s.name, .slice y s.len yc]))
    (hr : ∀ i, i < t.body.len → Rep w (t.body.kid i) (x i).1) (hu : Rep w s y) (hn : t.body.len + 1 ≤ 1000000) : Rep w (endT t s) a := by
  have h1 : rowsTo t.body.kid x t.body.len ++ [.int .u8 s.kind, .int .i64 s.num, .string s.name, .slice y s.len yc] = rowsTo (fun i => if i < t.body.len then t.body.kid i else s) (fun i => if i < t.body.len then x i else (y, yc)) (t.body.len + 1) := by
    rw [← rowsTo_appL]
    congr 1
    · exact rowsTo_sameL fun i hi => by simp [hi]
    · have h2 : ¬ t.body.len + 0 < t.body.len := by omega
      simp only [rowsTo, if_neg h2]
      rfl
  rw [h1] at h
  obtain ⟨a', c', he, hrep⟩ := rep_of_rowL h (fun i hi => by
    by_cases h2 : i < t.body.len
    · simp only [if_pos h2]; exact hr i h2
    · simp only [if_neg h2]; exact hu) hn
  injection he with he
  subst he
  exact hrep
theorem AppSt.keep {W w w' : World} {Ks : List (Nat × Obj)} {e : TypeId} {size n : Nat} {v : Value} {xs : List Value} (h : AppSt W Ks e size v n xs w) (hB : Below w.heap.size w w') : AppSt W Ks e size v n xs w' :=
  ⟨mem_then h.bel hB, own_below h.own hB, fun x hx => ⟨mem_keep (h.blk x hx).1 hB, (h.blk x hx).2⟩⟩
theorem checkLoops_any (p : Prg) (k wh : Int) (w : World) (sa ta : Option Addr) (sc tc : Nat) (hp : PrgAt w p sa ta) (hg : SignsIn w) (hk : 0 ≤ k ∧ k ≤ 255) (hwh : 0 ≤ wh ∧ wh ≤ 255) :
    Calls Tryd.prog 10 #[p.val sa sc ta tc, .int .u8 k, .int .u8 wh] w fun e w' => e = .returned (.bool true) ∧ Below w.heap.size w w' := by
  have hsl := hp.1.1
  have htl := hp.2.1
  obtain ⟨W, hW⟩ : ∃ W : World, w.alloc (prgObj p sa sc ta tc) = W := ⟨_, rfl⟩
  have HBW : Hid (Below w.heap.size w W) := by show Below _ _ _; rw [← hW]; exact mem_alloc _ _
  have HBX : Hid (W.heap[w.heap.size]? = some (prgObj p sa sc ta tc)) := by show _ = _; rw [← hW]; exact mem_new _ _
  have HP := Lib.hid (hp.below HBW.out)
  have HG := Lib.hid (hg.below HBW.out)
  have HK : Hid (∀ w', Below W.heap.size W w' → Below w.heap.size w w' ∧ w'.cell? ⟨w.heap.size, 0, none⟩ = some (.slice sa p.shared.length sc) ∧ w'.cell? ⟨w.heap.size, 1, none⟩ = some (.slice ta p.tasks.length tc) ∧ PrgAt w' p sa ta ∧ SignsIn w' ∧ w'.heap[w.heap.size]? = some (prgObj p sa sc ta tc)) := fun w' h => by
    have hb := mem_keep HBX.out h
    exact ⟨HBW.out.trans (h.mono HBW.out.size), mem_cell hb 0, mem_cell hb 1, HP.out.below h, HG.out.below h, hb⟩
  clear hp hg
  go_enter Tryd.func10, Tryd.ntmps10
  go_wp2_with fail
  clear hW
  refine (awake15_any W HG.out).mono ?_
  rintro e w1 ⟨rfl, hB1⟩
  have HB1 := Lib.hid hB1
  obtain ⟨_, y0, y1, hp1, hg1, _⟩ := HK.out w1 HB1.out
  have HP1 := Lib.hid hp1
  have HG1 := Lib.hid hg1
  clear hp1 hg1 hB1
  go_wp2_with fail
  clear y0 y1
  refine (clean_any p w1 sa ta sc tc HP1.out HG1.out).mono ?_
  rintro e w2 ⟨rfl, hB2⟩
  have HB2 : Hid (Below W.heap.size W w2) := mem_then HB1.out hB2
  obtain ⟨_, y0, y1, hp2, hg2, _⟩ := HK.out w2 HB2.out
  have HP2 := Lib.hid hp2
  have HAW : Hid (∀ w', Below W.heap.size W w' → Calls Tryd.prog 12 #[] w' fun e w'' => e = .returned (.bool true) ∧ Below w.heap.size w w'') := fun w' h => by
    refine (awake15_any w' (HG.out.below h)).mono ?_
    rintro e w9 ⟨he, hB9⟩
    exact ⟨he, (HK.out w9 (mem_then h hB9)).1⟩
  clear hB2 hp2 hg2
  cases hs : cleanP p with
  | false =>
    go_wp2_with fail
    refine (HAW.out w2 HB2.out).mono ?_
    rintro e w3 ⟨rfl, hB3⟩
    have HB3 := Lib.hid hB3
    clear hB3
    go_wp2_with fail
    go_ret
    exact ⟨rfl, HB3.out⟩
  | true =>
  have HOK : Hid (okP p = true) := by
    unfold cleanP at hs
    exact (Bool.and_eq_true _ _ ▸ hs).2
  clear hs
  by_cases h0 : p.tasks.length = 0
  · have hz : ((p.tasks.length : Int) == 0) = true := by simp [h0]
    clear h0
    go_wp2_with fail
    refine (HAW.out w2 HB2.out).mono ?_
    rintro e w3 ⟨rfl, hB3⟩
    have HB3 := Lib.hid hB3
    clear hB3
    go_wp2_with fail
    go_ret
    exact ⟨rfl, HB3.out⟩
  have hz : ((p.tasks.length : Int) == 0) = false := by rw [beq_eq_false_iff_ne]; omega
  have hlen0 : (p.tasks.length : Int) ≠ 0 := by omega
  obtain ⟨i, hi⟩ : ∃ i : Nat, k % (p.tasks.length : Int) = (i : Int) := ⟨(k % (p.tasks.length : Int)).toNat, by have := Int.emod_nonneg k hlen0; omega⟩
  have hil : i < p.tasks.length := by have := Int.emod_lt_of_pos k (show (0 : Int) < (p.tasks.length : Int) by omega); omega
  have hi2 : (i : Int) < (p.tasks.length : Int) := by omega
  have hi0 : (0 : Int) ≤ (i : Int) := by omega
  have HLE := Lib.hid (prgOk_le (okP_parts HOK.out).1)
  have hp8 : p.tasks.length ≤ 8 := HLE.out.2.1
  obtain ⟨tb, tf, q, rfl, hc, hin⟩ := HP2.out.2.2 i hil
  obtain ⟨t, ht⟩ : ∃ t, p.tasks.getD i Tsk.none = t := ⟨_, rfl⟩
  rw [ht] at hc hin
  have HT := Lib.hid ht
  have HTOK : Hid (tskOk t = true) := by show _ = _; rw [← ht]; exact HLE.out.2.2 i hil
  obtain ⟨I1, hI1⟩ : ∃ I : World, w2.alloc (.cells #[.int .i64 (i : Int)] 3) = I := ⟨_, rfl⟩
  have hBI : Below w2.heap.size w2 I1 := by rw [← hI1]; exact mem_alloc _ _
  have hXI : I1.heap[w2.heap.size]? = some (.cells #[.int .i64 (i : Int)] 3) := by rw [← hI1]; exact mem_new _ _
  obtain ⟨D, hD⟩ : ∃ D : World, I1.alloc (tskObj t q) = D := ⟨_, rfl⟩
  have hBD : Below I1.heap.size I1 D := by rw [← hD]; exact mem_alloc _ _
  have hXD : D.heap[I1.heap.size]? = some (tskObj t q) := by rw [← hD]; exact mem_new _ _
  have HBD : Hid (Below W.heap.size W D) := mem_then HB2.out (mem_then hBI hBD)
  have HTX := Lib.hid hXD
  have HIX := Lib.hid (mem_keep hXI hBD)
  have HLT : Hid (w.heap.size < w2.heap.size ∧ w2.heap.size < I1.heap.size ∧ I1.heap.size < D.heap.size) := ⟨Nat.lt_of_lt_of_le (mem_lt HBX.out) HB2.out.size, mem_lt hXI, mem_lt hXD⟩
  have HINW : Hid (TskIn D t q) := hin.below (mem_then hBI hBD)
  have HK2 : Hid (∀ w', Below D.heap.size D w' → Below w.heap.size w w' ∧ w'.heap[w.heap.size]? = some (prgObj p sa sc (some ⟨tb, tf, none⟩) tc) ∧ PrgAt w' p sa (some ⟨tb, tf, none⟩) ∧ SignsIn w' ∧ w'.heap[w2.heap.size]? = some (.cells #[.int .i64 (i : Int)] 3) ∧ w'.heap[I1.heap.size]? = some (tskObj t q) ∧ TskIn w' t q) := fun w' h => by
    obtain ⟨h1, h2, h3, h4, h5, h6⟩ := HK.out w' (mem_then HBD.out h)
    exact ⟨h1, h6, h4, h5, mem_keep HIX.out h, mem_keep HTX.out h, HINW.out.below h⟩
  -- the facts of the task's cells in the world of the index's box
  obtain ⟨⟨g0, g1, g2, g3, g4, g5, g6, g7⟩, _⟩ := tsk_cells hBI hc
  have y1I : I1.cell? ⟨w.heap.size, 1, none⟩ = some (.slice (some ⟨tb, tf, none⟩) p.tasks.length tc) := cell_below hBI y1
  have iI := mem_cell hXI 0
  simp only [List.getElem?_toArray, List.getElem?_cons_zero] at iI
  have hvl := HINW.out.vars.1
  have hal := HINW.out.arrays.1
  have hkl := HINW.out.body.fits.len
  clear ht hc hin hBI hXI hBD hXD h0
  go_upto_region 3 with fail
  go_upto_region 4 with fail
  simp only [hi]
  try rw [hI1]
  clear y0 y1 hI1
  obtain ⟨qva, qvc, qaa, qac, qka, qkc⟩ := q
  have x4 := mem_cell HTX.out 4
  have x5 := mem_cell HTX.out 5
  have x6 := mem_cell HTX.out 6
  have x7 := mem_cell HTX.out 7
  simp only [Tsk.cells, List.getElem?_toArray, List.getElem?_cons_zero, List.getElem?_cons_succ] at x4 x5 x6 x7
  have h8 := where_cap2 isForF 38 #[] (enters_of Tryd.func38 (by kernel_rfl) rfl) t.body D qka qkc HINW.out.body (by have := (tskOk_le HTOK.out).2.2; omega) (by have := tskOk_depth HTOK.out; omega) (fun x W' a c hb hr => isFor_any x W' a c hr)
  obtain ⟨ls, hls⟩ : ∃ ls, wantP isForF (t.body.items []) = ls := ⟨_, rfl⟩
  have HLS := Lib.hid hls
  rw [hls] at h8
  have H8 := Lib.hid h8
  clear h8 hls
  go_wp2_with fail
  clear hD x4 x5 x6 x7 y1I iI g0 g1 g2 g3 g4 g5 g6 g7
  have h9 := H8.out
  refine h9.mono ?_
  clear h9
  rintro e w4 ⟨la, lc, rfl, hps, hB4, _, hpcap⟩
  have HPS := Lib.hid hps
  have HPCAP := Lib.hid hpcap
  have HB4 := Lib.hid hB4
  have hlsl := hps.1
  clear hps hB4 hpcap
  by_cases hl0 : ls.length = 0
  · have hzl : ((ls.length : Int) == 0) = true := by simp [hl0]
    clear hl0
    go_wp2_with fail
    go_ret
    exact ⟨rfl, (HK2.out w4 HB4.out).1⟩
  have hzl : ((ls.length : Int) == 0) = false := by rw [beq_eq_false_iff_ne]; omega
  have hl3 : (0 : Int) < (ls.length : Int) := by omega
  have hy0 : (ls.length : Int) ≠ 0 := by omega
  obtain ⟨y, hy⟩ : ∃ y : Nat, wh % (ls.length : Int) = (y : Int) := ⟨(wh % (ls.length : Int)).toNat, by have := Int.emod_nonneg wh hy0; omega⟩
  have hyl : y < ls.length := by have := Int.emod_lt_of_pos wh hl3; omega
  have hyl2 : (y : Int) < (ls.length : Int) := by omega
  have hyl0 : (0 : Int) ≤ (y : Int) := by omega
  obtain ⟨rb, ro, pa, pc, rfl, hcell, hrow⟩ := HPS.out.2 y hyl
  obtain ⟨path, hpath⟩ : ∃ path, ls.getD y [] = path := ⟨_, rfl⟩
  rw [hpath] at hcell hrow
  have hpat : PathAt w4 (.slice pa path.length pc) path := by
    obtain ⟨b', o', v', hb', hc', hp'⟩ := HPCAP.out y hyl
    cases hb'
    rw [hcell] at hc'
    cases hc'
    rw [hpath] at hp'
    exact hp'
  have hpm : path ∈ wantP (fun x => decide (x.kind = 42)) (t.body.items []) := by
    have h : path ∈ ls := by rw [← hpath]; simp [hyl]
    rw [← HLS.out] at h
    exact h
  obtain ⟨n, u, hloop⟩ := loop_at (p := p) (tskOk_vld HTOK.out) hpm
  have HLOOP := Lib.hid hloop
  have hpl : path.length ≤ 16 := by
    unfold wantP at hpm
    obtain ⟨x, hx, rfl⟩ := List.mem_map.1 hpm
    have h1 := path_le (List.mem_filter.1 hx).1
    have h2 := tskOk_depth HTOK.out
    omega
  have hpl9 : path.length ≤ 9223372036854775807 := by omega
  obtain ⟨F, hF⟩ : ∃ F : World, w4.alloc (.cells #[.slice pa path.length pc] 33) = F := ⟨_, rfl⟩
  have hBF : Below w4.heap.size w4 F := by rw [← hF]; exact mem_alloc _ _
  have hXF : F.heap[w4.heap.size]? = some (.cells #[.slice pa path.length pc] 33) := by rw [← hF]; exact mem_new _ _
  have HXF := Lib.hid hXF
  have HBF : Hid (Below D.heap.size D F) := mem_then HB4.out hBF
  have HROW := Lib.hid (hrow.below hBF)
  obtain ⟨_, _, _, _, _, htF, hinF⟩ := HK2.out F HBF.out
  have x4 := mem_cell htF 4
  have x5 := mem_cell htF 5
  have x6 := mem_cell htF 6
  have x7 := mem_cell htF 7
  have q0 := mem_cell hXF 0
  simp only [Tsk.cells, List.getElem?_toArray, List.getElem?_cons_zero, List.getElem?_cons_succ] at x4 x5 x6 x7 q0
  have h8 := at_any t.body path F qka qkc (.slice pa path.length pc) hinF.body (by have := (tskOk_le HTOK.out).2.2; omega) (hpat.below hBF) (by omega)
  unfold AtOk at h8
  rw [HLOOP.out.atn] at h8
  have H8 := Lib.hid h8
  clear hpath hrow hpm hloop hBF hXF htF hinF h8 hpat HPCAP
  go_upto_region 8 with fail
  go_upto_region 9 with fail
  simp only [hy]
  try rw [hF]
  clear hy hF hcell
  go_wp2_with fail
  clear x4 x5 x6 x7 q0
  have h9 := H8.out
  refine h9.mono ?_
  clear h9
  rintro e w5 ⟨na, nc, rfl, hnr, hB5⟩
  have hnr : Rep w5 n na := hnr
  obtain ⟨N1, hN1⟩ : ∃ N : World, w5.alloc (boxObj n na nc) = N := ⟨_, rfl⟩
  obtain ⟨Z, hZ⟩ : ∃ N : World, N1.alloc (.cells #[.int .u8 2, .int .i64 0, .string n.name, .slice none 0 0] 43) = N := ⟨_, rfl⟩
  have hBN : Below w5.heap.size w5 N1 := by rw [← hN1]; exact mem_alloc _ _
  have hBZ : Below N1.heap.size N1 Z := by rw [← hZ]; exact mem_alloc _ _
  have hXN : N1.heap[w5.heap.size]? = some (boxObj n na nc) := by rw [← hN1]; exact mem_new _ _
  have hXZ : Z.heap[N1.heap.size]? = some (boxObj (varT n.name) none 0) := by rw [← hZ]; exact mem_new _ _
  have HBZ : Hid (Below F.heap.size F Z) := mem_then hB5 (mem_then hBN hBZ)
  have HXN := Lib.hid (mem_keep hXN hBZ)
  have HXZ := Lib.hid hXZ
  have HNR := Lib.hid (hnr.below (mem_then hBN hBZ))
  have HFN := Lib.hid hnr.fits
  have hnl := hnr.fits.len
  obtain ⟨⟨m0, m1, m2, m3⟩, _⟩ := blk4 hXN
  have hlZ : Hid (w5.heap.size < N1.heap.size ∧ N1.heap.size < Z.heap.size) := ⟨mem_lt hXN, mem_lt hXZ⟩
  have HKZ : Hid (∀ w', Below Z.heap.size Z w' → Below w.heap.size w w' ∧ w'.heap[w.heap.size]? = some (prgObj p sa sc (some ⟨tb, tf, none⟩) tc) ∧ PrgAt w' p sa (some ⟨tb, tf, none⟩) ∧ SignsIn w' ∧ w'.heap[w2.heap.size]? = some (.cells #[.int .i64 (i : Int)] 3) ∧ w'.heap[I1.heap.size]? = some (tskObj t ⟨qva, qvc, qaa, qac, qka, qkc⟩) ∧ TskIn w' t ⟨qva, qvc, qaa, qac, qka, qkc⟩ ∧ w'.heap[w4.heap.size]? = some (.cells #[.slice pa path.length pc] 33) ∧ IRow w' pa path ∧ w'.heap[w5.heap.size]? = some (boxObj n na nc) ∧ w'.heap[N1.heap.size]? = some (boxObj (varT n.name) none 0) ∧ Rep w' n na) := fun w' h => by
    have hf := mem_then HBZ.out h
    obtain ⟨h1, h2, h3, h4, h5, h6, h7⟩ := HK2.out w' (mem_then HBF.out hf)
    exact ⟨h1, h2, h3, h4, h5, h6, h7, mem_keep HXF.out hf, HROW.out.below hf, mem_keep HXN.out h, mem_keep HXZ.out h, HNR.out.below h⟩
  have HIN : Hid (∀ (s : Tree) (w' : World) (sna : Option Addr) (snc : Nat), Below Z.heap.size Z w' → Rep w' s sna → Calls Tryd.prog 40 #[s.val sna snc, .pointer (some ⟨I1.heap.size, 0, none⟩), .pointer (some ⟨w4.heap.size, 0, none⟩), .pointer (some ⟨w.heap.size, 0, none⟩), .pointer (some ⟨w2.heap.size, 0, none⟩)] w' fun e w'' => ∃ ta' tc', e = .returned (.tuple #[(swapP p i (insT t path u s)).val sa sc ta' tc', .bool (prgOk (swapP p i (insT t path u s)))]) ∧ PrgAt w'' (swapP p i (insT t path u s)) sa ta' ∧ Below w'.heap.size w' w'') := fun s w' sna snc h hs => by
    obtain ⟨_, h2, h3, h4, h5, h6, h7, h8, h9, _⟩ := HKZ.out w' h
    exact inside_any p t ⟨qva, qvc, qaa, qac, qka, qkc⟩ path i s u w' I1.heap.size w4.heap.size w.heap.size w2.heap.size sa _ sc tc sna snc pa pc h6 h7 h8 h9 h2 h3 h5 h4 hs hil (by omega) HLOOP.out.atu (by have := (tskOk_le HTOK.out).2.2; omega) (by omega)
  clear hnr hB5 hBN hBZ hXN hXZ
  obtain ⟨i0, ih, iz0, iz1, iz2⟩ := info_parts Tryd.infoInt
  obtain ⟨nb, no, rfl, hk0⟩ : ∃ nb no, na = some ⟨nb, no, none⟩ ∧ ∃ ai ci, NodeAt Z nb no u ai ci ∧ Rep Z u ai := by
    have h1 := HLOOP.out.len
    rcases HNR.out.kids with h0 | ⟨b, off, ha, hk⟩
    · omega
    · have h := hk 0 (by omega)
      rw [HLOOP.out.blk, Nat.zero_mul, Nat.add_zero] at h
      exact ⟨b, off, ha, h⟩
  obtain ⟨ua, uc, hun, _⟩ := hk0
  have HU3 : Hid (Z.cell? ⟨nb, no + 3, none⟩ = some (.slice ua u.len uc)) := hun.kids
  have hnl1 : (0 : Int) < (n.len : Int) := by have := HLOOP.out.len; omega
  have hnl2 : 0 < n.len := by omega
  have HSRC := Lib.hid (HKZ.out Z (Below.refl _ _)).2.2.2.2.2.2.2.2.1.src
  have hul : u.len ≤ 10000 := by
    have h1 := at_len HLOOP.out.atu
    have h2 := len_le_size u
    have := (tskOk_le HTOK.out).2.2
    omega
  clear hun
  have HZE := Lib.hid hZ
  clear hZ
  go_wp2_with fail
  rw [HZE.out]
  clear hN1 HZE m0 m1 m2 m3
  refine cut_runA (RunEndI 76 11 15 (fun v w' => ∃ a c, v = .slice a (path ++ [0, (u.len : Int)]).length c ∧ w'.ownsRow Z.heap.size 3 1 (.slice a (path ++ [0, (u.len : Int)]).length c) (path ++ [0, (u.len : Int)]).length (ints (path ++ [0, (u.len : Int)])) ∧ Below Z.heap.size Z w')) ?_ ?_
  · skip
    refine wp_region_held_drew (S := fun w' => Below Z.heap.size Z w') (by kernel_rfl) (((Below.refl _ _).drew)) (fun hHeld => ?_)
    have hD0 : Below Z.heap.size Z (World.drew Z) := (Below.refl _ _).drew
    generalize hw0 : World.drew Z = v0 at hHeld hD0 ⊢
    clear hw0
    have HA0 : Hid (AppSt Z ([] : List (Nat × Obj)) 3 1 (.slice none 0 0) 0 [] v0) := AppSt.begin hD0 (fun x hx => by cases hx)
    clear hD0
    refine wpAnyH_take (i := 1) (v := .slice pa path.length pc) rfl (by kernel_rfl) (by kernel_rfl) (by kernel_rfl) (fun _ _ _ h => h) (Or.inl ⟨by rfl, ?_⟩) (by assumption) ?_
    · intro w' hSw; obtain ⟨_, _, _, _, _, _, _, z8, _, z10, _⟩ := HKZ.out _ hSw; have y8 := mem_cell z8 0; have y3 := mem_cell z10 3; simp only [List.getElem?_toArray, List.getElem?_cons_zero, List.getElem?_cons_succ] at y8 y3; go_simp
    (try simp only [Act.put, List.getElem_toArray, List.getElem_cons_zero, List.getElem_cons_succ, List.setIfInBounds_toArray, List.set_cons_zero, List.set_cons_succ])
    refine wpAnyH_take (i := 3) (v := .pointer (some ⟨w5.heap.size, 3, none⟩)) rfl (by kernel_rfl) (by kernel_rfl) (by kernel_rfl) (fun _ _ _ h => h) (Or.inl ⟨by rfl, ?_⟩) (by assumption) ?_
    · intro w' hSw; go_simp
    (try simp only [Act.put, List.getElem_toArray, List.getElem_cons_zero, List.getElem_cons_succ, List.setIfInBounds_toArray, List.set_cons_zero, List.set_cons_succ])
    refine wpAnyH_take (i := 4) (v := .slice (some ⟨nb, no, none⟩) n.len nc) rfl (by kernel_rfl) (by kernel_rfl) (by kernel_rfl) (fun _ _ _ h => h) (Or.inl ⟨by rfl, ?_⟩) (by assumption) ?_
    · intro w' hSw; obtain ⟨_, _, _, _, _, _, _, z8, _, z10, _⟩ := HKZ.out _ hSw; have y8 := mem_cell z8 0; have y3 := mem_cell z10 3; simp only [List.getElem?_toArray, List.getElem?_cons_zero, List.getElem?_cons_succ] at y8 y3; go_simp
    (try simp only [Act.put, List.getElem_toArray, List.getElem_cons_zero, List.getElem_cons_succ, List.setIfInBounds_toArray, List.set_cons_zero, List.set_cons_succ])
    refine wpAnyH_take (i := 5) (v := .pointer (some ⟨nb, no, none⟩)) rfl (by kernel_rfl) (by kernel_rfl) (by kernel_rfl) (fun _ _ _ h => h) (Or.inl ⟨by rfl, ?_⟩) (by assumption) ?_
    · intro w' hSw; go_simp
    (try simp only [Act.put, List.getElem_toArray, List.getElem_cons_zero, List.getElem_cons_succ, List.setIfInBounds_toArray, List.set_cons_zero, List.set_cons_succ])
    refine wpAnyH_take (i := 6) (v := .pointer (some ⟨nb, no + 3, none⟩)) rfl (by kernel_rfl) (by kernel_rfl) (by kernel_rfl) (fun _ _ _ h => h) (Or.inl ⟨by rfl, ?_⟩) (by assumption) ?_
    · intro w' hSw; go_simp
    (try simp only [Act.put, List.getElem_toArray, List.getElem_cons_zero, List.getElem_cons_succ, List.setIfInBounds_toArray, List.set_cons_zero, List.set_cons_succ])
    refine wpAnyH_take (i := 7) (v := .slice ua u.len uc) rfl (by kernel_rfl) (by kernel_rfl) (by kernel_rfl) (fun _ _ _ h => h) (Or.inl ⟨by rfl, ?_⟩) (by assumption) ?_
    · intro w' hSw; have z0 := cell_below hSw HU3.out; go_simp
    (try simp only [Act.put, List.getElem_toArray, List.getElem_cons_zero, List.getElem_cons_succ, List.setIfInBounds_toArray, List.set_cons_zero, List.set_cons_succ])
    refine wpAnyH_take (i := 8) (v := .int .i64 (u.len : Int)) rfl (by kernel_rfl) (by kernel_rfl) (by kernel_rfl) (fun _ _ _ h => h) (Or.inl ⟨by rfl, ?_⟩) (by assumption) ?_
    · intro w' hSw; go_simp
    (try simp only [Act.put, List.getElem_toArray, List.getElem_cons_zero, List.getElem_cons_succ, List.setIfInBounds_toArray, List.set_cons_zero, List.set_cons_succ])
    refine wpAnyH_ready (rs := [0, 9]) (by kernel_rfl) (by simp) (AllReadyH.cons rfl (fun K hK => ?_) (AllReadyH.cons rfl (fun K hK => ?_) AllReadyH.nil))
    · skip
      go_simp
      have HA1 := Lib.hid HA0.out.start
      refine hK.out _ _ (HA1.out.bel) (fun hHeld => ?_)
      clear hK K
      rename_i hOld
      clear hOld
      (try simp only [Act.put, List.getElem_toArray, List.getElem_cons_zero, List.getElem_cons_succ, List.setIfInBounds_toArray, List.set_cons_zero, List.set_cons_succ])
      generalize hw : World.alloc v0 _ = v1 at hHeld HA1 ⊢
      clear hw
      refine wpAnyH_ready (rs := [2, 9]) (by kernel_rfl) (by simp) (AllReadyH.cons rfl (fun K hK => ?_) (AllReadyH.cons rfl (fun K hK => ?_) AllReadyH.nil))
      · skip
        refine step_append_src _ rfl (.tmp 76) (.tmp 77) 33 rfl Z.heap.size 3 i0 _ 1 8 Tryd.underlying33 ih iz0 iz1 iz2 rfl (by decide) (.slice (some ⟨v0.heap.size, 0, none⟩) 0 0) 0 [] (by simp [Act.eval]) HA1.out.own pa path.length pc (ints path) (by simp [Act.eval]) (HSRC.out.below HA1.out.bel) (ints_one path) (by unfold maxLen; omega) (by omega) HA1.out.bel.size ?_
        intro r2 v2 hown hgrow hplace
        rw [Nat.zero_add, List.nil_append] at hown
        obtain ⟨ra2, rc2, rfl⟩ := own_val hown
        have HA2 := Lib.hid (HA1.out.grow hown hgrow hplace)
        refine hK.out _ _ (HA2.out.bel) (fun hHeld => ?_)
        clear hK K hown hgrow hplace
        rename_i hOld
        clear hOld
        (try simp only [Act.put, List.getElem_toArray, List.getElem_cons_zero, List.getElem_cons_succ, List.setIfInBounds_toArray, List.set_cons_zero, List.set_cons_succ])
        refine wpAnyH_ready (rs := [9]) (by kernel_rfl) (by simp) (AllReadyH.cons rfl (fun K hK => ?_) AllReadyH.nil)
        go_simp
        have HA3 := Lib.hid (HA2.out.alloc (.cells #[.int .i64 0, .int .i64 (u.len : Int)] 3))
        refine hK.out _ _ (HA3.out.bel) (fun hHeld => ?_)
        clear hK K
        rename_i hOld
        clear hOld
        (try simp only [Act.put, List.getElem_toArray, List.getElem_cons_zero, List.getElem_cons_succ, List.setIfInBounds_toArray, List.set_cons_zero, List.set_cons_succ])
        generalize hw : World.alloc v2 _ = v3 at hHeld HA3 ⊢
        clear hw
        refine wpAnyH_ready (rs := [10]) (by kernel_rfl) (by simp) (AllReadyH.cons rfl (fun K hK => ?_) AllReadyH.nil)
        refine step_append_src _ rfl (.tmp 78) (.tmp 85) 33 rfl Z.heap.size 3 i0 _ 1 8 Tryd.underlying33 ih iz0 iz1 iz2 rfl (by decide) (.slice ra2 path.length rc2) path.length ((ints path)) (by simp [Act.eval]) HA3.out.own (some ⟨v2.heap.size, 0, none⟩) 2 2 [.int .i64 0, .int .i64 (u.len : Int)] (by simp [Act.eval]) (one_src (cs := [.int .i64 0, .int .i64 (u.len : Int)]) (n := 2) (HA3.out.blk (v2.heap.size, .cells #[.int .i64 0, .int .i64 (u.len : Int)] 3) (by simp)).1 rfl) (by simp [Value.oneCell']) (by unfold maxLen; omega) (by omega) HA3.out.bel.size ?_
        intro r4 v4 hown hgrow hplace
        obtain ⟨ra4, rc4, rfl⟩ := own_val hown
        have HA4 := Lib.hid (HA3.out.grow hown hgrow hplace)
        refine hK.out _ _ (HA4.out.bel) (fun hHeld => ?_)
        clear hK K hown hgrow hplace
        rename_i hOld
        clear hOld
        (try simp only [Act.put, List.getElem_toArray, List.getElem_cons_zero, List.getElem_cons_succ, List.setIfInBounds_toArray, List.set_cons_zero, List.set_cons_succ])
        have HQV : Hid (v4.ownsRow Z.heap.size 3 1 (.slice ra4 (path ++ [0, (u.len : Int)]).length rc4) (path ++ [0, (u.len : Int)]).length (ints (path ++ [0, (u.len : Int)]))) := by
          have h := HA4.out.own
          have e : (path ++ [0, (u.len : Int)]).length = path.length + 2 := by simp
          show World.ownsRow _ _ _ _ _ _ _
          unfold ints at h ⊢
          rw [e, List.map_append]
          exact h
        have HBQ := Lib.hid HA4.out.bel
        refine wpAnyH_ready (rs := [11]) (by kernel_rfl) (by simp) (AllReadyH.cons rfl (fun K hK => ?_) AllReadyH.nil)
        go_simp
        refine hK.out _ _ (HBQ.out) (fun hHeld => ?_)
        clear hK K
        rename_i hOld
        clear hOld
        (try simp only [Act.put, List.getElem_toArray, List.getElem_cons_zero, List.getElem_cons_succ, List.setIfInBounds_toArray, List.set_cons_zero, List.set_cons_succ])
        refine wpAnyH_done (by kernel_rfl) ?_ _
        exact ⟨[_, _, _, _, _, _, _, _, _, _, _], .slice ra4 (path.length + 2) rc4, rfl, (by simp only [putAll, List.setIfInBounds_toArray, List.set_cons_zero, List.set_cons_succ]; rfl), ra4, rc4, by simp, HQV.out, HBQ.out⟩
      · skip
        go_simp
        have HA2 := Lib.hid (HA1.out.alloc (.cells #[.int .i64 0, .int .i64 (u.len : Int)] 3))
        refine hK.out _ _ (HA2.out.bel) (fun hHeld => ?_)
        clear hK K
        rename_i hOld
        clear hOld
        (try simp only [Act.put, List.getElem_toArray, List.getElem_cons_zero, List.getElem_cons_succ, List.setIfInBounds_toArray, List.set_cons_zero, List.set_cons_succ])
        generalize hw : World.alloc v1 _ = v2 at hHeld HA2 ⊢
        clear hw
        refine wpAnyH_ready (rs := [2]) (by kernel_rfl) (by simp) (AllReadyH.cons rfl (fun K hK => ?_) AllReadyH.nil)
        refine step_append_src _ rfl (.tmp 76) (.tmp 77) 33 rfl Z.heap.size 3 i0 _ 1 8 Tryd.underlying33 ih iz0 iz1 iz2 rfl (by decide) (.slice (some ⟨v0.heap.size, 0, none⟩) 0 0) 0 [] (by simp [Act.eval]) HA2.out.own pa path.length pc (ints path) (by simp [Act.eval]) (HSRC.out.below HA2.out.bel) (ints_one path) (by unfold maxLen; omega) (by omega) HA2.out.bel.size ?_
        intro r3 v3 hown hgrow hplace
        rw [Nat.zero_add, List.nil_append] at hown
        obtain ⟨ra3, rc3, rfl⟩ := own_val hown
        have HA3 := Lib.hid (HA2.out.grow hown hgrow hplace)
        refine hK.out _ _ (HA3.out.bel) (fun hHeld => ?_)
        clear hK K hown hgrow hplace
        rename_i hOld
        clear hOld
        (try simp only [Act.put, List.getElem_toArray, List.getElem_cons_zero, List.getElem_cons_succ, List.setIfInBounds_toArray, List.set_cons_zero, List.set_cons_succ])
        refine wpAnyH_ready (rs := [10]) (by kernel_rfl) (by simp) (AllReadyH.cons rfl (fun K hK => ?_) AllReadyH.nil)
        refine step_append_src _ rfl (.tmp 78) (.tmp 85) 33 rfl Z.heap.size 3 i0 _ 1 8 Tryd.underlying33 ih iz0 iz1 iz2 rfl (by decide) (.slice ra3 path.length rc3) path.length ((ints path)) (by simp [Act.eval]) HA3.out.own (some ⟨v1.heap.size, 0, none⟩) 2 2 [.int .i64 0, .int .i64 (u.len : Int)] (by simp [Act.eval]) (one_src (cs := [.int .i64 0, .int .i64 (u.len : Int)]) (n := 2) (HA3.out.blk (v1.heap.size, .cells #[.int .i64 0, .int .i64 (u.len : Int)] 3) (by simp)).1 rfl) (by simp [Value.oneCell']) (by unfold maxLen; omega) (by omega) HA3.out.bel.size ?_
        intro r4 v4 hown hgrow hplace
        obtain ⟨ra4, rc4, rfl⟩ := own_val hown
        have HA4 := Lib.hid (HA3.out.grow hown hgrow hplace)
        refine hK.out _ _ (HA4.out.bel) (fun hHeld => ?_)
        clear hK K hown hgrow hplace
        rename_i hOld
        clear hOld
        (try simp only [Act.put, List.getElem_toArray, List.getElem_cons_zero, List.getElem_cons_succ, List.setIfInBounds_toArray, List.set_cons_zero, List.set_cons_succ])
        have HQV : Hid (v4.ownsRow Z.heap.size 3 1 (.slice ra4 (path ++ [0, (u.len : Int)]).length rc4) (path ++ [0, (u.len : Int)]).length (ints (path ++ [0, (u.len : Int)]))) := by
          have h := HA4.out.own
          have e : (path ++ [0, (u.len : Int)]).length = path.length + 2 := by simp
          show World.ownsRow _ _ _ _ _ _ _
          unfold ints at h ⊢
          rw [e, List.map_append]
          exact h
        have HBQ := Lib.hid HA4.out.bel
        refine wpAnyH_ready (rs := [11]) (by kernel_rfl) (by simp) (AllReadyH.cons rfl (fun K hK => ?_) AllReadyH.nil)
        go_simp
        refine hK.out _ _ (HBQ.out) (fun hHeld => ?_)
        clear hK K
        rename_i hOld
        clear hOld
        (try simp only [Act.put, List.getElem_toArray, List.getElem_cons_zero, List.getElem_cons_succ, List.setIfInBounds_toArray, List.set_cons_zero, List.set_cons_succ])
        refine wpAnyH_done (by kernel_rfl) ?_ _
        exact ⟨[_, _, _, _, _, _, _, _, _, _, _], .slice ra4 (path.length + 2) rc4, rfl, (by simp only [putAll, List.setIfInBounds_toArray, List.set_cons_zero, List.set_cons_succ]; rfl), ra4, rc4, by simp, HQV.out, HBQ.out⟩
    · skip
      go_simp
      have HA1 := Lib.hid (HA0.out.alloc (.cells #[.int .i64 0, .int .i64 (u.len : Int)] 3))
      refine hK.out _ _ (HA1.out.bel) (fun hHeld => ?_)
      clear hK K
      rename_i hOld
      clear hOld
      (try simp only [Act.put, List.getElem_toArray, List.getElem_cons_zero, List.getElem_cons_succ, List.setIfInBounds_toArray, List.set_cons_zero, List.set_cons_succ])
      generalize hw : World.alloc v0 _ = v1 at hHeld HA1 ⊢
      clear hw
      refine wpAnyH_ready (rs := [0]) (by kernel_rfl) (by simp) (AllReadyH.cons rfl (fun K hK => ?_) AllReadyH.nil)
      go_simp
      have HA2 := Lib.hid HA1.out.start
      refine hK.out _ _ (HA2.out.bel) (fun hHeld => ?_)
      clear hK K
      rename_i hOld
      clear hOld
      (try simp only [Act.put, List.getElem_toArray, List.getElem_cons_zero, List.getElem_cons_succ, List.setIfInBounds_toArray, List.set_cons_zero, List.set_cons_succ])
      generalize hw : World.alloc v1 _ = v2 at hHeld HA2 ⊢
      clear hw
      refine wpAnyH_ready (rs := [2]) (by kernel_rfl) (by simp) (AllReadyH.cons rfl (fun K hK => ?_) AllReadyH.nil)
      refine step_append_src _ rfl (.tmp 76) (.tmp 77) 33 rfl Z.heap.size 3 i0 _ 1 8 Tryd.underlying33 ih iz0 iz1 iz2 rfl (by decide) (.slice (some ⟨v1.heap.size, 0, none⟩) 0 0) 0 [] (by simp [Act.eval]) HA2.out.own pa path.length pc (ints path) (by simp [Act.eval]) (HSRC.out.below HA2.out.bel) (ints_one path) (by unfold maxLen; omega) (by omega) HA2.out.bel.size ?_
      intro r3 v3 hown hgrow hplace
      rw [Nat.zero_add, List.nil_append] at hown
      obtain ⟨ra3, rc3, rfl⟩ := own_val hown
      have HA3 := Lib.hid (HA2.out.grow hown hgrow hplace)
      refine hK.out _ _ (HA3.out.bel) (fun hHeld => ?_)
      clear hK K hown hgrow hplace
      rename_i hOld
      clear hOld
      (try simp only [Act.put, List.getElem_toArray, List.getElem_cons_zero, List.getElem_cons_succ, List.setIfInBounds_toArray, List.set_cons_zero, List.set_cons_succ])
      refine wpAnyH_ready (rs := [10]) (by kernel_rfl) (by simp) (AllReadyH.cons rfl (fun K hK => ?_) AllReadyH.nil)
      refine step_append_src _ rfl (.tmp 78) (.tmp 85) 33 rfl Z.heap.size 3 i0 _ 1 8 Tryd.underlying33 ih iz0 iz1 iz2 rfl (by decide) (.slice ra3 path.length rc3) path.length ((ints path)) (by simp [Act.eval]) HA3.out.own (some ⟨v0.heap.size, 0, none⟩) 2 2 [.int .i64 0, .int .i64 (u.len : Int)] (by simp [Act.eval]) (one_src (cs := [.int .i64 0, .int .i64 (u.len : Int)]) (n := 2) (HA3.out.blk (v0.heap.size, .cells #[.int .i64 0, .int .i64 (u.len : Int)] 3) (by simp)).1 rfl) (by simp [Value.oneCell']) (by unfold maxLen; omega) (by omega) HA3.out.bel.size ?_
      intro r4 v4 hown hgrow hplace
      obtain ⟨ra4, rc4, rfl⟩ := own_val hown
      have HA4 := Lib.hid (HA3.out.grow hown hgrow hplace)
      refine hK.out _ _ (HA4.out.bel) (fun hHeld => ?_)
      clear hK K hown hgrow hplace
      rename_i hOld
      clear hOld
      (try simp only [Act.put, List.getElem_toArray, List.getElem_cons_zero, List.getElem_cons_succ, List.setIfInBounds_toArray, List.set_cons_zero, List.set_cons_succ])
      have HQV : Hid (v4.ownsRow Z.heap.size 3 1 (.slice ra4 (path ++ [0, (u.len : Int)]).length rc4) (path ++ [0, (u.len : Int)]).length (ints (path ++ [0, (u.len : Int)]))) := by
        have h := HA4.out.own
        have e : (path ++ [0, (u.len : Int)]).length = path.length + 2 := by simp
        show World.ownsRow _ _ _ _ _ _ _
        unfold ints at h ⊢
        rw [e, List.map_append]
        exact h
      have HBQ := Lib.hid HA4.out.bel
      refine wpAnyH_ready (rs := [11]) (by kernel_rfl) (by simp) (AllReadyH.cons rfl (fun K hK => ?_) AllReadyH.nil)
      go_simp
      refine hK.out _ _ (HBQ.out) (fun hHeld => ?_)
      clear hK K
      rename_i hOld
      clear hOld
      (try simp only [Act.put, List.getElem_toArray, List.getElem_cons_zero, List.getElem_cons_succ, List.setIfInBounds_toArray, List.set_cons_zero, List.set_cons_succ])
      refine wpAnyH_done (by kernel_rfl) ?_ _
      exact ⟨[_, _, _, _, _, _, _, _, _, _, _], .slice ra4 (path.length + 2) rc4, rfl, (by simp only [putAll, List.setIfInBounds_toArray, List.set_cons_zero, List.set_cons_succ]; rfl), ra4, rc4, by simp, HQV.out, HBQ.out⟩
  rintro a' w6 ⟨l, v, hl, rfl, A6, c6, rfl, hown6, hB6⟩
  obtain ⟨l0, l1, l2, l3, l4, l5, l6, l7, l8, l9, l10, rfl⟩ := list11i hl
  simp only [putAll, List.setIfInBounds_toArray, List.set_cons_zero, List.set_cons_succ]
  obtain ⟨last, hlast⟩ : ∃ last, path ++ [0, (u.len : Int)] = last := ⟨_, rfl⟩
  rw [hlast] at hown6 ⊢
  have HLAST := Lib.hid hlast
  have HOWN6 := Lib.hid hown6
  have HB6 := Lib.hid hB6
  have hll : last.length ≤ 40 := by rw [← hlast]; simp; omega
  clear hl hlast hown6 hB6 HSRC HU3
  have hplace : ∀ w', Below Z.heap.size Z w' → w'.heap[N1.heap.size]? = some (.cells #[.int .u8 2, .int .i64 0, .string n.name, .slice none 0 0] 43) := fun w' h => (HKZ.out w' h).2.2.2.2.2.2.2.2.2.2.1
  have HPL := Lib.hid hplace
  clear hplace
  obtain ⟨Y1, hY1⟩ : ∃ N : World, w6.alloc (.cells #[.int .u8 2, .int .i64 0, .string n.name, .slice none 0 0, .int .u8 1, .int .i64 0, .string ⟨#[]⟩, .slice none 0 0] 43) = N := ⟨_, rfl⟩
  have hB61 : Below w6.heap.size w6 Y1 := by rw [← hY1]; exact mem_alloc _ _
  have hX1 : Y1.heap[w6.heap.size]? = some (.cells #[.int .u8 2, .int .i64 0, .string n.name, .slice none 0 0, .int .u8 1, .int .i64 0, .string ⟨#[]⟩, .slice none 0 0] 43) := by rw [← hY1]; exact mem_new _ _
  obtain ⟨Y2, hY2⟩ : ∃ N : World, Y1.alloc (.cells #[.int .u8 2, .int .i64 0, .string n.name, .slice none 0 0] 43) = N := ⟨_, rfl⟩
  have hB62 : Below Y1.heap.size Y1 Y2 := by rw [← hY2]; exact mem_alloc _ _
  have hX2 : Y2.heap[Y1.heap.size]? = some (.cells #[.int .u8 2, .int .i64 0, .string n.name, .slice none 0 0] 43) := by rw [← hY2]; exact mem_new _ _
  obtain ⟨Y3, hY3⟩ : ∃ N : World, Y2.alloc (.cells #[.int .u8 40, .int .i64 0, .string ⟨#[]⟩, .slice (some ⟨w6.heap.size, 0, none⟩) 2 2, .int .u8 44, .int .i64 0, .string ⟨#[]⟩, .slice (some ⟨Y1.heap.size, 0, none⟩) 1 1] 43) = N := ⟨_, rfl⟩
  have hB63 : Below Y2.heap.size Y2 Y3 := by rw [← hY3]; exact mem_alloc _ _
  have hX3 : Y3.heap[Y2.heap.size]? = some (.cells #[.int .u8 40, .int .i64 0, .string ⟨#[]⟩, .slice (some ⟨w6.heap.size, 0, none⟩) 2 2, .int .u8 44, .int .i64 0, .string ⟨#[]⟩, .slice (some ⟨Y1.heap.size, 0, none⟩) 1 1] 43) := by rw [← hY3]; exact mem_new _ _
  have HBY : Hid (Below Z.heap.size Z Y3) := mem_then HB6.out (mem_then hB61 (mem_then hB62 hB63))
  have HY6 : Hid (Below w6.heap.size w6 Y3) := mem_then hB61 (mem_then hB62 hB63)
  have HNS : Hid (n.name.size ≤ 9223372036854775807) := HFN.out.name
  have HR0 : Hid (Rep Y3 (assignT n.name) (some ⟨w6.heap.size, 0, none⟩)) := by
    have h : Rep Y3 (two1 (40 : Nat) (varT n.name) numZ) (some ⟨w6.heap.size, 0, none⟩) := two1_rep (c0 := 0) (c1 := 0) (a0 := none) (a1 := none) (mem_keep hX1 (mem_then hB62 hB63)) (by omega) (varT_rep HNS.out) numZ_rep
    exact h
  have HR1 : Hid (Rep Y3 (inT n.name) (some ⟨Y1.heap.size, 0, none⟩)) := by
    have h : Rep Y3 (one1 (44 : Nat) ⟨#[]⟩ (varT n.name)) (some ⟨Y1.heap.size, 0, none⟩) := one1_rep (c := 0) (a := none) (mem_keep hX2 hB63) (by omega) (by show (0 : Nat) ≤ 5; omega) (varT_rep HNS.out)
    exact h
  have HXC := Lib.hid hX3
  have HSTJ : Hid (∀ j : Nat, j < 2 → ∃ sna snc, Rep Y3 (stmtJ n.name j) sna ∧ (∀ w', Below Y3.heap.size Y3 w' → NodeAt w' Y2.heap.size (j * 4) (stmtJ n.name j) sna snc)) := fun j hj => by
    match j, hj with
    | 0, _ => exact ⟨_, 2, HR0.out, fun w' h => by
        have hc := mem_cell (mem_keep HXC.out h)
        exact ⟨hc 0, hc 1, hc 2, hc 3⟩⟩
    | 1, _ => exact ⟨_, 1, HR1.out, fun w' h => by
        have hc := mem_cell (mem_keep HXC.out h)
        exact ⟨hc 4, hc 5, hc 6, hc 7⟩⟩
  have HONJ : Hid (∀ j : Nat, j < 2 → prgOk (swapP p i (insT t path u (stmtJ n.name j))) = true → onlyP (swapP p i (insT t path u (stmtJ n.name j))) (i : Int) 7 [last ++ [0]] = true) := fun j hj hv => by
    rw [← HLAST.out]
    match j, hj with
    | 0, _ => exact ins_assign HT.out HOK.out hil HLOOP.out hv
    | 1, _ => exact ins_in HT.out HOK.out hil HLOOP.out hv
  obtain ⟨⟨p0, p1, p2, p3⟩, _⟩ := blk4 (HPL.out w6 HB6.out)
  obtain ⟨⟨r0, r1, r2, r3⟩, _⟩ := blk4 (HPL.out Y1 (mem_then HB6.out hB61))
  clear hB61 hX1 hB62 hX2 hB63 hX3
  go_wp2_with fail
  clear p0 p1 p2 p3 r0 r1 r2 r3 hY1 hY2 hY3
  go_loopw [96] (fun iv wr => ∃ j : Nat, j ≤ 2 ∧ iv = .int .i64 (j : Int) ∧ Below Y3.heap.size Y3 wr) (fun iv _ => 2 - (intOf iv).toNat)
  case atStart => exact ⟨0, by omega, rfl, Below.refl _ _⟩
  case round =>
    obtain ⟨j, hj, rfl, hBR⟩ := hrel
    have HBR := Lib.hid hBR
    clear hBR
    by_cases hlt : j < 2
    · have hlt2 : (j : Int) < 2 := by omega
      have hj0 : (0 : Int) ≤ (j : Int) := by omega
      obtain ⟨s, hs⟩ : ∃ s, stmtJ n.name j = s := ⟨_, rfl⟩
      obtain ⟨sna, snc, hrs, hns⟩ := HSTJ.out j hlt
      have hon := HONJ.out j hlt
      rw [hs] at hrs hns hon
      have HON := Lib.hid hon
      obtain ⟨c0, c1, c2, c3⟩ := hns wr HBR.out
      obtain ⟨V, hV⟩ : ∃ N : World, wr.alloc (boxObj s sna snc) = N := ⟨_, rfl⟩
      have hBV : Below wr.heap.size wr V := by rw [← hV]; exact mem_alloc _ _
      have hXV : V.heap[wr.heap.size]? = some (boxObj s sna snc) := by rw [← hV]; exact mem_new _ _
      obtain ⟨⟨v0, v1, v2, v3⟩, _⟩ := blk4 hXV
      have HBV : Hid (Below Y3.heap.size Y3 V) := mem_then HBR.out hBV
      have HCALL := Lib.hid (HIN.out s V sna snc (mem_then HBY.out HBV.out) (hrs.below HBV.out))
      clear hs hns hon hrs hBV hXV
      go_wp2_with fail
      clear hV c0 c1 c2 c3 v0 v1 v2 v3
      have h9 := HCALL.out
      refine h9.mono ?_
      clear h9 HCALL
      rintro e w7 ⟨ta7, tc7, rfl, hp7, hB7⟩
      obtain ⟨q, hq⟩ : ∃ q, swapP p i (insT t path u s) = q := ⟨_, rfl⟩
      rw [hq] at hp7 HON ⊢
      obtain ⟨F7, hF7⟩ : ∃ N : World, w7.alloc (prgObj q sa sc ta7 tc7) = N := ⟨_, rfl⟩
      have hBF7 : Below w7.heap.size w7 F7 := by rw [← hF7]; exact mem_alloc _ _
      have HQ7 : Hid (F7.heap[w7.heap.size]? = some (prgObj q sa sc ta7 tc7)) := by show _ = _; rw [← hF7]; exact mem_new _ _
      have HB7 : Hid (Below Y3.heap.size Y3 F7) := mem_then HBV.out (mem_then hB7 hBF7)
      have HP7 := Lib.hid (hp7.below hBF7)
      have HKF : Hid (∀ w', Below F7.heap.size F7 w' → Below w.heap.size w w' ∧ w'.heap[w.heap.size]? = some (prgObj p sa sc (some ⟨tb, tf, none⟩) tc) ∧ PrgAt w' p sa (some ⟨tb, tf, none⟩) ∧ SignsIn w' ∧ w'.heap[w2.heap.size]? = some (.cells #[.int .i64 (i : Int)] 3)) := fun w' h => by
        obtain ⟨h1, h2, h3, h4, h5, _⟩ := HKZ.out w' (mem_then HBY.out (mem_then HB7.out h))
        exact ⟨h1, h2, h3, h4, h5⟩
      clear hp7 hB7 hBF7 hq
      cases hv : prgOk q with
      | false =>
        clear hv
        go_wp2_with fail
        clear hF7
        go_region
        go_wp2_with fail
        go_roundw
        case rel => exact ⟨j + 1, by omega, by go_num, HB7.out.drew⟩
        case measure => simp [intOf]; omega
      | true =>
        have HONQ : Hid (onlyP q (i : Int) 7 [last ++ [0]] = true) := HON.out hv
        have HSRC6 : Hid (Src F7 A6 last.length 1 (ints last)) := (own_src HOWN6.out).below (mem_then HY6.out HB7.out)
        clear hv
        go_wp2_with fail
        clear hF7
        refine cut_runA (RunEndI 106 12 118 (fun v w' => v = .bool false ∧ Below F7.heap.size F7 w')) ?_ ?_
        · skip
          refine wp_region_held_drew (S := fun w' => Below F7.heap.size F7 w') (by kernel_rfl) (((Below.refl _ _).drew)) (fun hHeld => ?_)
          have hD0 : Below F7.heap.size F7 (World.drew F7) := (Below.refl _ _).drew
          generalize hw0 : World.drew F7 = v0 at hHeld hD0 ⊢
          clear hw0
          have HA0 : Hid (AppSt F7 ([] : List (Nat × Obj)) 3 1 (.slice none 0 0) 0 [] v0) := AppSt.begin hD0 (fun x hx => by cases hx)
          clear hD0
          refine wpAnyH_take (i := 0) (v := .bool true) rfl (by kernel_rfl) (by kernel_rfl) (by kernel_rfl) (fun _ _ _ h => h) (Or.inl ⟨by rfl, ?_⟩) (by assumption) ?_
          · intro w' hSw; go_simp
          (try simp only [Act.put, List.getElem_toArray, List.getElem_cons_zero, List.setIfInBounds_toArray, List.set_cons_zero, List.set_cons_succ])
          refine wpAnyH_take (i := 1) (v := .bool true) rfl (by kernel_rfl) (by kernel_rfl) (by kernel_rfl) (fun _ _ _ h => h) (Or.inl ⟨by rfl, ?_⟩) (by assumption) ?_
          · intro w' hSw; go_simp
          (try simp only [Act.put, List.getElem_toArray, List.getElem_cons_zero, List.getElem_cons_succ, List.setIfInBounds_toArray, List.set_cons_zero, List.set_cons_succ])
          refine wpAnyH_take (i := 2) (v := .agg #[.slice sa q.shared.length sc, .slice ta7 q.tasks.length tc7]) rfl (by kernel_rfl) (by kernel_rfl) (by kernel_rfl) (fun _ _ _ h => h) (Or.inl ⟨by rfl, ?_⟩) (by assumption) ?_
          · intro w' hSw; have z0 := mem_cell (mem_keep HQ7.out hSw) 0; have z1 := mem_cell (mem_keep HQ7.out hSw) 1; simp only [List.getElem?_toArray, List.getElem?_cons_zero, List.getElem?_cons_succ] at z0 z1; go_simp
          (try simp only [Act.put, List.getElem_toArray, List.getElem_cons_zero, List.getElem_cons_succ, List.setIfInBounds_toArray, List.set_cons_zero, List.set_cons_succ])
          refine wpAnyH_take (i := 3) (v := .int .i64 (i : Int)) rfl (by kernel_rfl) (by kernel_rfl) (by kernel_rfl) (fun _ _ _ h => h) (Or.inl ⟨by rfl, ?_⟩) (by assumption) ?_
          · intro w' hSw; have z0 := mem_cell (HKF.out _ hSw).2.2.2.2 0; simp only [List.getElem?_toArray, List.getElem?_cons_zero] at z0; go_simp
          (try simp only [Act.put, List.getElem_toArray, List.getElem_cons_zero, List.getElem_cons_succ, List.setIfInBounds_toArray, List.set_cons_zero, List.set_cons_succ])
          refine wpAnyH_take (i := 5) (v := .slice A6 last.length c6) rfl (by kernel_rfl) (by kernel_rfl) (by kernel_rfl) (fun _ _ _ h => h) (Or.inl ⟨by rfl, ?_⟩) (by assumption) ?_
          · intro w' hSw; go_simp
          (try simp only [Act.put, List.getElem_toArray, List.getElem_cons_zero, List.getElem_cons_succ, List.setIfInBounds_toArray, List.set_cons_zero, List.set_cons_succ])
          refine wpAnyH_ready (rs := [4, 7]) (by kernel_rfl) (by simp) (AllReadyH.cons rfl (fun K hK => ?_) (AllReadyH.cons rfl (fun K hK => ?_) AllReadyH.nil))
          · skip
            go_simp
            have HA1 := Lib.hid HA0.out.start
            refine hK.out _ _ (HA1.out.bel) (fun hHeld => ?_)
            clear hK K
            rename_i hOld
            clear hOld
            (try simp only [Act.put, List.getElem_toArray, List.getElem_cons_zero, List.getElem_cons_succ, List.setIfInBounds_toArray, List.set_cons_zero, List.set_cons_succ])
            generalize hw : World.alloc v0 _ = v1 at hHeld HA1 ⊢
            clear hw
            refine wpAnyH_ready (rs := [6, 7]) (by kernel_rfl) (by simp) (AllReadyH.cons rfl (fun K hK => ?_) (AllReadyH.cons rfl (fun K hK => ?_) AllReadyH.nil))
            · skip
              refine step_append_srcW _ rfl (.tmp 110) (.tmp 111) 33 rfl F7.heap.size 3 i0 _ 1 8 Tryd.underlying33 ih iz0 iz1 iz2 rfl (by decide) (.slice (some ⟨v0.heap.size, 0, none⟩) 0 0) 0 [] (by simp [Act.eval]) HA1.out.own A6 last.length c6 (ints last) (by simp [Act.eval]) (HSRC6.out.below HA1.out.bel) (ints_one last) (by unfold maxLen; omega) (by omega) HA1.out.bel.size ?_
              intro r2 v2 hown hgrow hplace
              rw [Nat.zero_add, List.nil_append] at hown
              obtain ⟨ra2, rc2, rfl⟩ := own_val hown
              have HA2 := Lib.hid (HA1.out.grow hown hgrow hplace)
              refine hK.out _ _ (HA2.out.bel) (fun hHeld => ?_)
              clear hK K hown hgrow hplace
              rename_i hOld
              clear hOld
              (try simp only [Act.put, List.getElem_toArray, List.getElem_cons_zero, List.getElem_cons_succ, List.setIfInBounds_toArray, List.set_cons_zero, List.set_cons_succ])
              refine wpAnyH_ready (rs := [7]) (by kernel_rfl) (by simp) (AllReadyH.cons rfl (fun K hK => ?_) AllReadyH.nil)
              go_simp
              have HA3 := Lib.hid (HA2.out.alloc (.cells #[.int .i64 0] 3))
              refine hK.out _ _ (HA3.out.bel) (fun hHeld => ?_)
              clear hK K
              rename_i hOld
              clear hOld
              (try simp only [Act.put, List.getElem_toArray, List.getElem_cons_zero, List.getElem_cons_succ, List.setIfInBounds_toArray, List.set_cons_zero, List.set_cons_succ])
              generalize hw : World.alloc v2 _ = v3 at hHeld HA3 ⊢
              clear hw
              refine wpAnyH_ready (rs := [8]) (by kernel_rfl) (by simp) (AllReadyH.cons rfl (fun K hK => ?_) AllReadyH.nil)
              refine step_append_srcW _ rfl (.tmp 112) (.tmp 113) 33 rfl F7.heap.size 3 i0 _ 1 8 Tryd.underlying33 ih iz0 iz1 iz2 rfl (by decide) (.slice ra2 last.length rc2) last.length ((ints last)) (by simp [Act.eval]) HA3.out.own (some ⟨v2.heap.size, 0, none⟩) 1 1 [.int .i64 0] (by simp [Act.eval]) (one_src (cs := [.int .i64 0]) (n := 1) (HA3.out.blk (v2.heap.size, .cells #[.int .i64 0] 3) (by simp)).1 rfl) (by simp [Value.oneCell']) (by unfold maxLen; omega) (by omega) HA3.out.bel.size ?_
              intro r4 v4 hown hgrow hplace
              obtain ⟨ra4, rc4, rfl⟩ := own_val hown
              have HA4 := Lib.hid (HA3.out.grow hown hgrow hplace)
              refine hK.out _ _ (HA4.out.bel) (fun hHeld => ?_)
              clear hK K hown hgrow hplace
              rename_i hOld
              clear hOld
              (try simp only [Act.put, List.getElem_toArray, List.getElem_cons_zero, List.getElem_cons_succ, List.setIfInBounds_toArray, List.set_cons_zero, List.set_cons_succ])
              have HQV : Hid (IRow v4 ra4 (last ++ [0])) := by
                have h := HA4.out.own
                have e : (last ++ [(0 : Int)]).length = last.length + 1 := by simp
                have h2 : PathV F7.heap.size v4 (.slice ra4 (last ++ [(0 : Int)]).length rc4) (last ++ [0]) := by
                  show World.ownsRow _ _ _ _ _ _ _
                  unfold ints at h ⊢
                  rw [e, List.map_append]
                  exact h
                exact h2.row
              obtain ⟨E9, hE9⟩ : ∃ E9 : World, v4.alloc (.cells #[.slice ra4 (last.length + 1) rc4] 33) = E9 := ⟨_, rfl⟩
              have hB9 : Below v4.heap.size v4 E9 := by rw [← hE9]; exact mem_alloc _ _
              have hX9 : E9.heap[v4.heap.size]? = some (.cells #[.slice ra4 (last.length + 1) rc4] 33) := by rw [← hE9]; exact mem_new _ _
              have HB9 : Hid (Below F7.heap.size F7 E9) := mem_then HA4.out.bel hB9
              have HPS : Hid (PathsAt E9 (some ⟨v4.heap.size, 0, none⟩) [last ++ [0]]) := ⟨by show 1 ≤ _; omega, fun m hm => by
                have hm : m < 1 := hm
                obtain rfl : m = 0 := by omega
                refine ⟨v4.heap.size, 0, ra4, rc4, rfl, ?_, HQV.out.below hB9⟩
                have h := mem_cell hX9 0
                have e : ([last ++ [(0 : Int)]].getD 0 []).length = last.length + 1 := by simp
                rw [e]
                exact h⟩
              clear hB9 hX9
              refine wpAnyH_ready (rs := [9]) (by kernel_rfl) (by simp) (AllReadyH.cons rfl (fun K hK => ?_) AllReadyH.nil)
              go_simp
              try rw [hE9]
              clear hE9
              refine hK.out _ _ (HB9.out) (fun hHeld => ?_)
              clear hK K
              rename_i hOld
              clear hOld
              (try simp only [Act.put, List.getElem_toArray, List.getElem_cons_zero, List.getElem_cons_succ, List.setIfInBounds_toArray, List.set_cons_zero, List.set_cons_succ])
              refine wpAnyH_ready (rs := [10]) (by kernel_rfl) (by simp) (AllReadyH.cons rfl (fun K hK => ?_) AllReadyH.nil)
              go_simp
              have h9 := only_any q (i : Int) 7 [last ++ [0]] E9 sa ta7 (some ⟨v4.heap.size, 0, none⟩) sc tc7 1 (HP7.out.below HB9.out) (HKF.out E9 HB9.out).2.2.2.1 HPS.out
              refine h9.mono ?_
              clear h9
              rintro e w8 ⟨he, hB8⟩
              rw [HONQ.out] at he
              subst he
              have HB8 : Hid (Below F7.heap.size F7 w8) := mem_then HB9.out hB8
              clear hB8
              refine hK.out _ _ (HB8.out) (fun hHeld => ?_)
              clear hK K
              rename_i hOld
              clear hOld
              (try simp only [Act.put, List.getElem_toArray, List.getElem_cons_zero, List.getElem_cons_succ, List.setIfInBounds_toArray, List.set_cons_zero, List.set_cons_succ])
              refine wpAnyH_ready (rs := [11]) (by kernel_rfl) (by simp) (AllReadyH.cons rfl (fun K hK => ?_) AllReadyH.nil)
              go_simp
              refine hK.out _ _ (HB8.out) (fun hHeld => ?_)
              clear hK K
              rename_i hOld
              clear hOld
              (try simp only [Act.put, List.getElem_toArray, List.getElem_cons_zero, List.getElem_cons_succ, List.setIfInBounds_toArray, List.set_cons_zero, List.set_cons_succ])
              refine wpAnyH_ready (rs := [12]) (by kernel_rfl) (by simp) (AllReadyH.cons rfl (fun K hK => ?_) AllReadyH.nil)
              go_simp
              refine hK.out _ _ (HB8.out) (fun hHeld => ?_)
              clear hK K
              rename_i hOld
              clear hOld
              (try simp only [Act.put, List.getElem_toArray, List.getElem_cons_zero, List.getElem_cons_succ, List.setIfInBounds_toArray, List.set_cons_zero, List.set_cons_succ])
              refine wpAnyH_done (by kernel_rfl) ?_ _
              exact ⟨[_, _, _, _, _, _, _, _, _, _, _, _], .bool false, rfl, (by simp only [putAll, List.setIfInBounds_toArray, List.set_cons_zero, List.set_cons_succ]; rfl), rfl, HB8.out⟩
            · skip
              go_simp
              have HA2 := Lib.hid (HA1.out.alloc (.cells #[.int .i64 0] 3))
              refine hK.out _ _ (HA2.out.bel) (fun hHeld => ?_)
              clear hK K
              rename_i hOld
              clear hOld
              (try simp only [Act.put, List.getElem_toArray, List.getElem_cons_zero, List.getElem_cons_succ, List.setIfInBounds_toArray, List.set_cons_zero, List.set_cons_succ])
              generalize hw : World.alloc v1 _ = v2 at hHeld HA2 ⊢
              clear hw
              refine wpAnyH_ready (rs := [6]) (by kernel_rfl) (by simp) (AllReadyH.cons rfl (fun K hK => ?_) AllReadyH.nil)
              refine step_append_srcW _ rfl (.tmp 110) (.tmp 111) 33 rfl F7.heap.size 3 i0 _ 1 8 Tryd.underlying33 ih iz0 iz1 iz2 rfl (by decide) (.slice (some ⟨v0.heap.size, 0, none⟩) 0 0) 0 [] (by simp [Act.eval]) HA2.out.own A6 last.length c6 (ints last) (by simp [Act.eval]) (HSRC6.out.below HA2.out.bel) (ints_one last) (by unfold maxLen; omega) (by omega) HA2.out.bel.size ?_
              intro r3 v3 hown hgrow hplace
              rw [Nat.zero_add, List.nil_append] at hown
              obtain ⟨ra3, rc3, rfl⟩ := own_val hown
              have HA3 := Lib.hid (HA2.out.grow hown hgrow hplace)
              refine hK.out _ _ (HA3.out.bel) (fun hHeld => ?_)
              clear hK K hown hgrow hplace
              rename_i hOld
              clear hOld
              (try simp only [Act.put, List.getElem_toArray, List.getElem_cons_zero, List.getElem_cons_succ, List.setIfInBounds_toArray, List.set_cons_zero, List.set_cons_succ])
              refine wpAnyH_ready (rs := [8]) (by kernel_rfl) (by simp) (AllReadyH.cons rfl (fun K hK => ?_) AllReadyH.nil)
              refine step_append_srcW _ rfl (.tmp 112) (.tmp 113) 33 rfl F7.heap.size 3 i0 _ 1 8 Tryd.underlying33 ih iz0 iz1 iz2 rfl (by decide) (.slice ra3 last.length rc3) last.length ((ints last)) (by simp [Act.eval]) HA3.out.own (some ⟨v1.heap.size, 0, none⟩) 1 1 [.int .i64 0] (by simp [Act.eval]) (one_src (cs := [.int .i64 0]) (n := 1) (HA3.out.blk (v1.heap.size, .cells #[.int .i64 0] 3) (by simp)).1 rfl) (by simp [Value.oneCell']) (by unfold maxLen; omega) (by omega) HA3.out.bel.size ?_
              intro r4 v4 hown hgrow hplace
              obtain ⟨ra4, rc4, rfl⟩ := own_val hown
              have HA4 := Lib.hid (HA3.out.grow hown hgrow hplace)
              refine hK.out _ _ (HA4.out.bel) (fun hHeld => ?_)
              clear hK K hown hgrow hplace
              rename_i hOld
              clear hOld
              (try simp only [Act.put, List.getElem_toArray, List.getElem_cons_zero, List.getElem_cons_succ, List.setIfInBounds_toArray, List.set_cons_zero, List.set_cons_succ])
              have HQV : Hid (IRow v4 ra4 (last ++ [0])) := by
                have h := HA4.out.own
                have e : (last ++ [(0 : Int)]).length = last.length + 1 := by simp
                have h2 : PathV F7.heap.size v4 (.slice ra4 (last ++ [(0 : Int)]).length rc4) (last ++ [0]) := by
                  show World.ownsRow _ _ _ _ _ _ _
                  unfold ints at h ⊢
                  rw [e, List.map_append]
                  exact h
                exact h2.row
              obtain ⟨E9, hE9⟩ : ∃ E9 : World, v4.alloc (.cells #[.slice ra4 (last.length + 1) rc4] 33) = E9 := ⟨_, rfl⟩
              have hB9 : Below v4.heap.size v4 E9 := by rw [← hE9]; exact mem_alloc _ _
              have hX9 : E9.heap[v4.heap.size]? = some (.cells #[.slice ra4 (last.length + 1) rc4] 33) := by rw [← hE9]; exact mem_new _ _
              have HB9 : Hid (Below F7.heap.size F7 E9) := mem_then HA4.out.bel hB9
              have HPS : Hid (PathsAt E9 (some ⟨v4.heap.size, 0, none⟩) [last ++ [0]]) := ⟨by show 1 ≤ _; omega, fun m hm => by
                have hm : m < 1 := hm
                obtain rfl : m = 0 := by omega
                refine ⟨v4.heap.size, 0, ra4, rc4, rfl, ?_, HQV.out.below hB9⟩
                have h := mem_cell hX9 0
                have e : ([last ++ [(0 : Int)]].getD 0 []).length = last.length + 1 := by simp
                rw [e]
                exact h⟩
              clear hB9 hX9
              refine wpAnyH_ready (rs := [9]) (by kernel_rfl) (by simp) (AllReadyH.cons rfl (fun K hK => ?_) AllReadyH.nil)
              go_simp
              try rw [hE9]
              clear hE9
              refine hK.out _ _ (HB9.out) (fun hHeld => ?_)
              clear hK K
              rename_i hOld
              clear hOld
              (try simp only [Act.put, List.getElem_toArray, List.getElem_cons_zero, List.getElem_cons_succ, List.setIfInBounds_toArray, List.set_cons_zero, List.set_cons_succ])
              refine wpAnyH_ready (rs := [10]) (by kernel_rfl) (by simp) (AllReadyH.cons rfl (fun K hK => ?_) AllReadyH.nil)
              go_simp
              have h9 := only_any q (i : Int) 7 [last ++ [0]] E9 sa ta7 (some ⟨v4.heap.size, 0, none⟩) sc tc7 1 (HP7.out.below HB9.out) (HKF.out E9 HB9.out).2.2.2.1 HPS.out
              refine h9.mono ?_
              clear h9
              rintro e w8 ⟨he, hB8⟩
              rw [HONQ.out] at he
              subst he
              have HB8 : Hid (Below F7.heap.size F7 w8) := mem_then HB9.out hB8
              clear hB8
              refine hK.out _ _ (HB8.out) (fun hHeld => ?_)
              clear hK K
              rename_i hOld
              clear hOld
              (try simp only [Act.put, List.getElem_toArray, List.getElem_cons_zero, List.getElem_cons_succ, List.setIfInBounds_toArray, List.set_cons_zero, List.set_cons_succ])
              refine wpAnyH_ready (rs := [11]) (by kernel_rfl) (by simp) (AllReadyH.cons rfl (fun K hK => ?_) AllReadyH.nil)
              go_simp
              refine hK.out _ _ (HB8.out) (fun hHeld => ?_)
              clear hK K
              rename_i hOld
              clear hOld
              (try simp only [Act.put, List.getElem_toArray, List.getElem_cons_zero, List.getElem_cons_succ, List.setIfInBounds_toArray, List.set_cons_zero, List.set_cons_succ])
              refine wpAnyH_ready (rs := [12]) (by kernel_rfl) (by simp) (AllReadyH.cons rfl (fun K hK => ?_) AllReadyH.nil)
              go_simp
              refine hK.out _ _ (HB8.out) (fun hHeld => ?_)
              clear hK K
              rename_i hOld
              clear hOld
              (try simp only [Act.put, List.getElem_toArray, List.getElem_cons_zero, List.getElem_cons_succ, List.setIfInBounds_toArray, List.set_cons_zero, List.set_cons_succ])
              refine wpAnyH_done (by kernel_rfl) ?_ _
              exact ⟨[_, _, _, _, _, _, _, _, _, _, _, _], .bool false, rfl, (by simp only [putAll, List.setIfInBounds_toArray, List.set_cons_zero, List.set_cons_succ]; rfl), rfl, HB8.out⟩
          · skip
            go_simp
            have HA1 := Lib.hid (HA0.out.alloc (.cells #[.int .i64 0] 3))
            refine hK.out _ _ (HA1.out.bel) (fun hHeld => ?_)
            clear hK K
            rename_i hOld
            clear hOld
            (try simp only [Act.put, List.getElem_toArray, List.getElem_cons_zero, List.getElem_cons_succ, List.setIfInBounds_toArray, List.set_cons_zero, List.set_cons_succ])
            generalize hw : World.alloc v0 _ = v1 at hHeld HA1 ⊢
            clear hw
            refine wpAnyH_ready (rs := [4]) (by kernel_rfl) (by simp) (AllReadyH.cons rfl (fun K hK => ?_) AllReadyH.nil)
            go_simp
            have HA2 := Lib.hid HA1.out.start
            refine hK.out _ _ (HA2.out.bel) (fun hHeld => ?_)
            clear hK K
            rename_i hOld
            clear hOld
            (try simp only [Act.put, List.getElem_toArray, List.getElem_cons_zero, List.getElem_cons_succ, List.setIfInBounds_toArray, List.set_cons_zero, List.set_cons_succ])
            generalize hw : World.alloc v1 _ = v2 at hHeld HA2 ⊢
            clear hw
            refine wpAnyH_ready (rs := [6]) (by kernel_rfl) (by simp) (AllReadyH.cons rfl (fun K hK => ?_) AllReadyH.nil)
            refine step_append_srcW _ rfl (.tmp 110) (.tmp 111) 33 rfl F7.heap.size 3 i0 _ 1 8 Tryd.underlying33 ih iz0 iz1 iz2 rfl (by decide) (.slice (some ⟨v1.heap.size, 0, none⟩) 0 0) 0 [] (by simp [Act.eval]) HA2.out.own A6 last.length c6 (ints last) (by simp [Act.eval]) (HSRC6.out.below HA2.out.bel) (ints_one last) (by unfold maxLen; omega) (by omega) HA2.out.bel.size ?_
            intro r3 v3 hown hgrow hplace
            rw [Nat.zero_add, List.nil_append] at hown
            obtain ⟨ra3, rc3, rfl⟩ := own_val hown
            have HA3 := Lib.hid (HA2.out.grow hown hgrow hplace)
            refine hK.out _ _ (HA3.out.bel) (fun hHeld => ?_)
            clear hK K hown hgrow hplace
            rename_i hOld
            clear hOld
            (try simp only [Act.put, List.getElem_toArray, List.getElem_cons_zero, List.getElem_cons_succ, List.setIfInBounds_toArray, List.set_cons_zero, List.set_cons_succ])
            refine wpAnyH_ready (rs := [8]) (by kernel_rfl) (by simp) (AllReadyH.cons rfl (fun K hK => ?_) AllReadyH.nil)
            refine step_append_srcW _ rfl (.tmp 112) (.tmp 113) 33 rfl F7.heap.size 3 i0 _ 1 8 Tryd.underlying33 ih iz0 iz1 iz2 rfl (by decide) (.slice ra3 last.length rc3) last.length ((ints last)) (by simp [Act.eval]) HA3.out.own (some ⟨v0.heap.size, 0, none⟩) 1 1 [.int .i64 0] (by simp [Act.eval]) (one_src (cs := [.int .i64 0]) (n := 1) (HA3.out.blk (v0.heap.size, .cells #[.int .i64 0] 3) (by simp)).1 rfl) (by simp [Value.oneCell']) (by unfold maxLen; omega) (by omega) HA3.out.bel.size ?_
            intro r4 v4 hown hgrow hplace
            obtain ⟨ra4, rc4, rfl⟩ := own_val hown
            have HA4 := Lib.hid (HA3.out.grow hown hgrow hplace)
            refine hK.out _ _ (HA4.out.bel) (fun hHeld => ?_)
            clear hK K hown hgrow hplace
            rename_i hOld
            clear hOld
            (try simp only [Act.put, List.getElem_toArray, List.getElem_cons_zero, List.getElem_cons_succ, List.setIfInBounds_toArray, List.set_cons_zero, List.set_cons_succ])
            have HQV : Hid (IRow v4 ra4 (last ++ [0])) := by
              have h := HA4.out.own
              have e : (last ++ [(0 : Int)]).length = last.length + 1 := by simp
              have h2 : PathV F7.heap.size v4 (.slice ra4 (last ++ [(0 : Int)]).length rc4) (last ++ [0]) := by
                show World.ownsRow _ _ _ _ _ _ _
                unfold ints at h ⊢
                rw [e, List.map_append]
                exact h
              exact h2.row
            obtain ⟨E9, hE9⟩ : ∃ E9 : World, v4.alloc (.cells #[.slice ra4 (last.length + 1) rc4] 33) = E9 := ⟨_, rfl⟩
            have hB9 : Below v4.heap.size v4 E9 := by rw [← hE9]; exact mem_alloc _ _
            have hX9 : E9.heap[v4.heap.size]? = some (.cells #[.slice ra4 (last.length + 1) rc4] 33) := by rw [← hE9]; exact mem_new _ _
            have HB9 : Hid (Below F7.heap.size F7 E9) := mem_then HA4.out.bel hB9
            have HPS : Hid (PathsAt E9 (some ⟨v4.heap.size, 0, none⟩) [last ++ [0]]) := ⟨by show 1 ≤ _; omega, fun m hm => by
              have hm : m < 1 := hm
              obtain rfl : m = 0 := by omega
              refine ⟨v4.heap.size, 0, ra4, rc4, rfl, ?_, HQV.out.below hB9⟩
              have h := mem_cell hX9 0
              have e : ([last ++ [(0 : Int)]].getD 0 []).length = last.length + 1 := by simp
              rw [e]
              exact h⟩
            clear hB9 hX9
            refine wpAnyH_ready (rs := [9]) (by kernel_rfl) (by simp) (AllReadyH.cons rfl (fun K hK => ?_) AllReadyH.nil)
            go_simp
            try rw [hE9]
            clear hE9
            refine hK.out _ _ (HB9.out) (fun hHeld => ?_)
            clear hK K
            rename_i hOld
            clear hOld
            (try simp only [Act.put, List.getElem_toArray, List.getElem_cons_zero, List.getElem_cons_succ, List.setIfInBounds_toArray, List.set_cons_zero, List.set_cons_succ])
            refine wpAnyH_ready (rs := [10]) (by kernel_rfl) (by simp) (AllReadyH.cons rfl (fun K hK => ?_) AllReadyH.nil)
            go_simp
            have h9 := only_any q (i : Int) 7 [last ++ [0]] E9 sa ta7 (some ⟨v4.heap.size, 0, none⟩) sc tc7 1 (HP7.out.below HB9.out) (HKF.out E9 HB9.out).2.2.2.1 HPS.out
            refine h9.mono ?_
            clear h9
            rintro e w8 ⟨he, hB8⟩
            rw [HONQ.out] at he
            subst he
            have HB8 : Hid (Below F7.heap.size F7 w8) := mem_then HB9.out hB8
            clear hB8
            refine hK.out _ _ (HB8.out) (fun hHeld => ?_)
            clear hK K
            rename_i hOld
            clear hOld
            (try simp only [Act.put, List.getElem_toArray, List.getElem_cons_zero, List.getElem_cons_succ, List.setIfInBounds_toArray, List.set_cons_zero, List.set_cons_succ])
            refine wpAnyH_ready (rs := [11]) (by kernel_rfl) (by simp) (AllReadyH.cons rfl (fun K hK => ?_) AllReadyH.nil)
            go_simp
            refine hK.out _ _ (HB8.out) (fun hHeld => ?_)
            clear hK K
            rename_i hOld
            clear hOld
            (try simp only [Act.put, List.getElem_toArray, List.getElem_cons_zero, List.getElem_cons_succ, List.setIfInBounds_toArray, List.set_cons_zero, List.set_cons_succ])
            refine wpAnyH_ready (rs := [12]) (by kernel_rfl) (by simp) (AllReadyH.cons rfl (fun K hK => ?_) AllReadyH.nil)
            go_simp
            refine hK.out _ _ (HB8.out) (fun hHeld => ?_)
            clear hK K
            rename_i hOld
            clear hOld
            (try simp only [Act.put, List.getElem_toArray, List.getElem_cons_zero, List.getElem_cons_succ, List.setIfInBounds_toArray, List.set_cons_zero, List.set_cons_succ])
            refine wpAnyH_done (by kernel_rfl) ?_ _
            exact ⟨[_, _, _, _, _, _, _, _, _, _, _, _], .bool false, rfl, (by simp only [putAll, List.setIfInBounds_toArray, List.set_cons_zero, List.set_cons_succ]; rfl), rfl, HB8.out⟩
        rintro a' w8 ⟨l, v, hl, rfl, rfl, hB8⟩
        obtain ⟨l0, l1, l2, l3, l4, l5, l6, l7, l8, l9, l10, l11, rfl⟩ := list12i hl
        simp only [putAll, List.setIfInBounds_toArray, List.set_cons_zero, List.set_cons_succ]
        have HB8 := Lib.hid (mem_then HB7.out hB8)
        clear hl hB8
        go_wp2_with fail
        go_roundw
        case rel => exact ⟨j + 1, by omega, by go_num, HB8.out⟩
        case measure => simp [intOf]; omega
    · obtain rfl : j = 2 := by omega
      clear hlt hj
      have HZR : Hid (Below Z.heap.size Z wr) := mem_then HBY.out HBR.out
      obtain ⟨q, hq⟩ : ∃ q, swapP p i (insT t path u (forT n.name)) = q := ⟨_, rfl⟩
      obtain ⟨ok, hok⟩ : ∃ ok, prgOk q = ok := ⟨_, rfl⟩
      have hin20 : ∀ (w' : World) (sna : Option Addr) (snc : Nat), Below Z.heap.size Z w' → Rep w' (forT n.name) sna → Calls Tryd.prog 40 #[.agg #[.int .u8 42, .int .i64 1, .string n.name, .slice sna 1 snc], .pointer (some ⟨I1.heap.size, 0, none⟩), .pointer (some ⟨w4.heap.size, 0, none⟩), .pointer (some ⟨w.heap.size, 0, none⟩), .pointer (some ⟨w2.heap.size, 0, none⟩)] w' fun e w'' => ∃ ta' tc', e = .returned (.tuple #[.agg #[.slice sa q.shared.length sc, .slice ta' q.tasks.length tc'], .bool ok]) ∧ PrgAt w'' q sa ta' ∧ Below w'.heap.size w' w'' := fun w' sna snc h1 h2 => by
        have h := HIN.out (forT n.name) w' sna snc h1 h2
        rw [hq, hok] at h
        exact h
      have HIN20 := Lib.hid hin20
      have HON20 : Hid (ok = true → onlyP q (i : Int) 8 [last] = true) := fun hv => by
        rw [← hq, ← HLAST.out]
        exact ins_for HT.out HOK.out hil HLOOP.out (by rw [hq, hok]; exact hv)
      clear hq hok hin20
      go_wp2_with fail
      refine cut_runA (RunEnd2 120 10 20 21 (fun v1 v2 w' => ∃ b ta' tc', v1 = .pointer (some ⟨b, 0, none⟩) ∧ v2 = .bool ok ∧ w'.heap[b]? = some (prgObj q sa sc ta' tc') ∧ PrgAt w' q sa ta' ∧ Below wr.heap.size wr w')) ?_ ?_
      · skip
        refine wp_region_held_drew (S := fun w' => Below wr.heap.size wr w') (by kernel_rfl) (((Below.refl _ _).drew)) (fun hHeld => ?_)
        have hD0 : Below wr.heap.size wr (World.drew wr) := (Below.refl _ _).drew
        generalize hw0 : World.drew wr = v0 at hHeld hD0 ⊢
        clear hw0
        have HA0 : Hid (AppSt wr ([] : List (Nat × Obj)) 3 1 (.slice none 0 0) 0 [] v0) := AppSt.begin hD0 (fun x hx => by cases hx)
        clear hD0
        refine wpAnyH_take (i := 0) (v := .func (.func 40) #[] #[.pointer (some ⟨I1.heap.size, 0, none⟩), .pointer (some ⟨w4.heap.size, 0, none⟩), .pointer (some ⟨w.heap.size, 0, none⟩), .pointer (some ⟨w2.heap.size, 0, none⟩)]) rfl (by kernel_rfl) (by kernel_rfl) (by kernel_rfl) (fun _ _ _ h => h) (Or.inl ⟨by rfl, ?_⟩) (by assumption) ?_
        · intro w' hSw; go_simp
        (try simp only [Act.put, List.getElem_toArray, List.getElem_cons_zero, List.setIfInBounds_toArray, List.set_cons_zero, List.set_cons_succ])
        refine wpAnyH_take (i := 1) (v := .pointer (some ⟨w5.heap.size, 2, none⟩)) rfl (by kernel_rfl) (by kernel_rfl) (by kernel_rfl) (fun _ _ _ h => h) (Or.inl ⟨by rfl, ?_⟩) (by assumption) ?_
        · intro w' hSw; go_simp
        (try simp only [Act.put, List.getElem_toArray, List.getElem_cons_zero, List.getElem_cons_succ, List.setIfInBounds_toArray, List.set_cons_zero, List.set_cons_succ])
        refine wpAnyH_take (i := 2) (v := .string n.name) rfl (by kernel_rfl) (by kernel_rfl) (by kernel_rfl) (fun _ _ _ h => h) (Or.inl ⟨by rfl, ?_⟩) (by assumption) ?_
        · intro w' hSw; have z0 := mem_cell (HKZ.out _ (mem_then HZR.out hSw)).2.2.2.2.2.2.2.2.2.1 2; simp only [List.getElem?_toArray, List.getElem?_cons_zero, List.getElem?_cons_succ] at z0; go_simp
        (try simp only [Act.put, List.getElem_toArray, List.getElem_cons_zero, List.getElem_cons_succ, List.setIfInBounds_toArray, List.set_cons_zero, List.set_cons_succ])
        refine wpAnyH_ready (rs := [3, 10]) (by kernel_rfl) (by simp) (AllReadyH.cons rfl (fun K hK => ?_) (AllReadyH.cons rfl (fun K hK => ?_) AllReadyH.nil))
        · skip
          go_simp
          refine (block_any v0 none 0 0).mono ?_
          rintro e v1 ⟨rfl, hB1⟩
          have HA1 := Lib.hid (HA0.out.keep hB1)
          clear hB1
          refine hK.out _ _ (HA1.out.bel) (fun hHeld => ?_)
          clear hK K
          rename_i hOld
          clear hOld
          (try simp only [Act.put, List.getElem_toArray, List.getElem_cons_zero, List.getElem_cons_succ, List.setIfInBounds_toArray, List.set_cons_zero, List.set_cons_succ])
          refine wpAnyH_ready (rs := [4, 10]) (by kernel_rfl) (by simp) (AllReadyH.cons rfl (fun K hK => ?_) (AllReadyH.cons rfl (fun K hK => ?_) AllReadyH.nil))
          · skip
            go_simp
            have HA2 := Lib.hid (HA1.out.alloc (.cells #[.int .u8 47, .int .i64 0, .string ⟨#[]⟩, .slice none 0 0] 43))
            refine hK.out _ _ (HA2.out.bel) (fun hHeld => ?_)
            clear hK K
            rename_i hOld
            clear hOld
            (try simp only [Act.put, List.getElem_toArray, List.getElem_cons_zero, List.getElem_cons_succ, List.setIfInBounds_toArray, List.set_cons_zero, List.set_cons_succ])
            generalize hw : World.alloc v1 _ = v2 at hHeld HA2 ⊢
            clear hw
            refine wpAnyH_take (i := 5) (v := .agg #[.int .u8 42, .int .i64 1, .string n.name, .slice (some ⟨v1.heap.size, 0, none⟩) 1 1]) rfl (by kernel_rfl) (by kernel_rfl) (by kernel_rfl) (fun _ _ _ h => h) (Or.inl ⟨by rfl, ?_⟩) (by assumption) ?_
            · intro w' hSw; go_simp
            (try simp only [Act.put, List.getElem_toArray, List.getElem_cons_zero, List.getElem_cons_succ, List.setIfInBounds_toArray, List.set_cons_zero, List.set_cons_succ])
            refine wpAnyH_ready (rs := [6, 10]) (by kernel_rfl) (by simp) (AllReadyH.cons rfl (fun K hK => ?_) (AllReadyH.cons rfl (fun K hK => ?_) AllReadyH.nil))
            · skip
              go_simp
              have h9 := HIN20.out v2 (some ⟨v1.heap.size, 0, none⟩) 1 (mem_then HZR.out HA2.out.bel) (forT_rep (HA2.out.blk (v1.heap.size, .cells #[.int .u8 47, .int .i64 0, .string ⟨#[]⟩, .slice none 0 0] 43) (by simp)).1 HFN.out.name)
              refine h9.mono ?_
              clear h9
              rintro e v3 ⟨ta3, tc3, rfl, hp3, hB3⟩
              have HA3 := Lib.hid (HA2.out.keep hB3)
              have HPQ3 := Lib.hid hp3
              clear hp3 hB3
              refine hK.out _ _ (HA3.out.bel) (fun hHeld => ?_)
              clear hK K
              rename_i hOld
              clear hOld
              (try simp only [Act.put, List.getElem_toArray, List.getElem_cons_zero, List.getElem_cons_succ, List.setIfInBounds_toArray, List.set_cons_zero, List.set_cons_succ])
              refine wpAnyH_take (i := 7) (v := .tuple #[.agg #[.slice sa q.shared.length sc, .slice ta3 q.tasks.length tc3], .bool ok]) rfl (by kernel_rfl) (by kernel_rfl) (by kernel_rfl) (fun _ _ _ h => h) (Or.inl ⟨by rfl, ?_⟩) (by assumption) ?_
              · intro w' hSw; go_simp
              (try simp only [Act.put, List.getElem_toArray, List.getElem_cons_zero, List.getElem_cons_succ, List.setIfInBounds_toArray, List.set_cons_zero, List.set_cons_succ])
              refine wpAnyH_take (i := 8) (v := .agg #[.slice sa q.shared.length sc, .slice ta3 q.tasks.length tc3]) rfl (by kernel_rfl) (by kernel_rfl) (by kernel_rfl) (fun _ _ _ h => h) (Or.inl ⟨by rfl, ?_⟩) (by assumption) ?_
              · intro w' hSw; go_simp
              (try simp only [Act.put, List.getElem_toArray, List.getElem_cons_zero, List.getElem_cons_succ, List.setIfInBounds_toArray, List.set_cons_zero, List.set_cons_succ])
              refine wpAnyH_take (i := 9) (v := .bool ok) rfl (by kernel_rfl) (by kernel_rfl) (by kernel_rfl) (fun _ _ _ h => h) (Or.inl ⟨by rfl, ?_⟩) (by assumption) ?_
              · intro w' hSw; go_simp
              (try simp only [Act.put, List.getElem_toArray, List.getElem_cons_zero, List.getElem_cons_succ, List.setIfInBounds_toArray, List.set_cons_zero, List.set_cons_succ])
              refine wpAnyH_ready (rs := [10]) (by kernel_rfl) (by simp) (AllReadyH.cons rfl (fun K hK => ?_) AllReadyH.nil)
              go_simp
              have HA4 := Lib.hid (HA3.out.alloc (.cells #[.slice none 0 0, .slice none 0 0] 25))
              have HPQ4 := Lib.hid (HPQ3.out.below (mem_alloc v3 (.cells #[.slice none 0 0, .slice none 0 0] 25)))
              refine hK.out _ _ (HA4.out.bel) (fun hHeld => ?_)
              clear hK K
              rename_i hOld
              clear hOld
              (try simp only [Act.put, List.getElem_toArray, List.getElem_cons_zero, List.getElem_cons_succ, List.setIfInBounds_toArray, List.set_cons_zero, List.set_cons_succ])
              generalize hw : World.alloc v3 _ = v4 at hHeld HA4 HPQ4 ⊢
              clear hw
              refine wpAnyH_ready (rs := [11]) (by kernel_rfl) (by simp) (AllReadyH.cons rfl (fun K hK => ?_) AllReadyH.nil)
              have q0 := (HA4.out.blk (v3.heap.size, .cells #[.slice none 0 0, .slice none 0 0] 25) (by simp)).1
              have f0 := mem_free q0 0
              have f1 := mem_free q0 1
              have g0 := mem_cell q0 0
              have g1 := mem_cell q0 1
              simp only [List.getElem?_toArray, List.getElem?_cons_zero, List.getElem?_cons_succ] at g0 g1
              obtain ⟨E9, hE9⟩ : ∃ E9 : World, (v4.setCell ⟨v3.heap.size, 0, none⟩ (.slice sa q.shared.length sc)).setCell ⟨v3.heap.size, 1, none⟩ (.slice ta3 q.tasks.length tc3) = E9 := ⟨_, rfl⟩
              have hX9 : E9.heap[v3.heap.size]? = some (prgObj q sa sc ta3 tc3) := by rw [← hE9, mem_set (mem_set q0)]; rfl
              have HB9 : Hid (Below wr.heap.size wr E9) := by show Below _ _ _; rw [← hE9]; exact (HA4.out.bel.setCell (p := ⟨v3.heap.size, 0, none⟩) HA3.out.bel.size _).setCell (p := ⟨v3.heap.size, 1, none⟩) HA3.out.bel.size _
              have HPE : Hid (PrgAt E9 q sa ta3) := off_prg (dull_of q0) (fun k hk => by rw [← hE9, Below.heap_setCell _ _ _ _ hk, Below.heap_setCell _ _ _ _ hk]) HPQ4.out
              have HX9 := Lib.hid hX9
              clear q0 hX9
              go_simp
              try rw [hE9]
              clear hE9 f0 f1 g0 g1
              refine hK.out _ _ (HB9.out) (fun hHeld => ?_)
              clear hK K
              rename_i hOld
              clear hOld
              (try simp only [Act.put, List.getElem_toArray, List.getElem_cons_zero, List.getElem_cons_succ, List.setIfInBounds_toArray, List.set_cons_zero, List.set_cons_succ])
              refine wpAnyH_ready (rs := [12]) (by kernel_rfl) (by simp) (AllReadyH.cons rfl (fun K hK => ?_) AllReadyH.nil)
              go_simp
              refine hK.out _ _ (HB9.out) (fun hHeld => ?_)
              clear hK K
              rename_i hOld
              clear hOld
              (try simp only [Act.put, List.getElem_toArray, List.getElem_cons_zero, List.getElem_cons_succ, List.setIfInBounds_toArray, List.set_cons_zero, List.set_cons_succ])
              refine wpAnyH_done (by kernel_rfl) ?_ _
              exact ⟨[_, _, _, _, _, _, _, _, _, _], .pointer (some ⟨v3.heap.size, 0, none⟩), .bool ok, rfl, (by simp only [putAll, List.setIfInBounds_toArray, List.set_cons_zero, List.set_cons_succ]; rfl), v3.heap.size, ta3, tc3, rfl, rfl, HX9.out, HPE.out, HB9.out⟩
            · skip
              go_simp
              have HA3 := Lib.hid (HA2.out.alloc (.cells #[.slice none 0 0, .slice none 0 0] 25))
              refine hK.out _ _ (HA3.out.bel) (fun hHeld => ?_)
              clear hK K
              rename_i hOld
              clear hOld
              (try simp only [Act.put, List.getElem_toArray, List.getElem_cons_zero, List.getElem_cons_succ, List.setIfInBounds_toArray, List.set_cons_zero, List.set_cons_succ])
              generalize hw : World.alloc v2 _ = v3 at hHeld HA3 ⊢
              clear hw
              refine wpAnyH_ready (rs := [6]) (by kernel_rfl) (by simp) (AllReadyH.cons rfl (fun K hK => ?_) AllReadyH.nil)
              go_simp
              have h9 := HIN20.out v3 (some ⟨v1.heap.size, 0, none⟩) 1 (mem_then HZR.out HA3.out.bel) (forT_rep (HA3.out.blk (v1.heap.size, .cells #[.int .u8 47, .int .i64 0, .string ⟨#[]⟩, .slice none 0 0] 43) (by simp)).1 HFN.out.name)
              refine h9.mono ?_
              clear h9
              rintro e v4 ⟨ta4, tc4, rfl, hp4, hB4⟩
              have HA4 := Lib.hid (HA3.out.keep hB4)
              have HPQ4 := Lib.hid hp4
              clear hp4 hB4
              refine hK.out _ _ (HA4.out.bel) (fun hHeld => ?_)
              clear hK K
              rename_i hOld
              clear hOld
              (try simp only [Act.put, List.getElem_toArray, List.getElem_cons_zero, List.getElem_cons_succ, List.setIfInBounds_toArray, List.set_cons_zero, List.set_cons_succ])
              refine wpAnyH_take (i := 7) (v := .tuple #[.agg #[.slice sa q.shared.length sc, .slice ta4 q.tasks.length tc4], .bool ok]) rfl (by kernel_rfl) (by kernel_rfl) (by kernel_rfl) (fun _ _ _ h => h) (Or.inl ⟨by rfl, ?_⟩) (by assumption) ?_
              · intro w' hSw; go_simp
              (try simp only [Act.put, List.getElem_toArray, List.getElem_cons_zero, List.getElem_cons_succ, List.setIfInBounds_toArray, List.set_cons_zero, List.set_cons_succ])
              refine wpAnyH_take (i := 8) (v := .agg #[.slice sa q.shared.length sc, .slice ta4 q.tasks.length tc4]) rfl (by kernel_rfl) (by kernel_rfl) (by kernel_rfl) (fun _ _ _ h => h) (Or.inl ⟨by rfl, ?_⟩) (by assumption) ?_
              · intro w' hSw; go_simp
              (try simp only [Act.put, List.getElem_toArray, List.getElem_cons_zero, List.getElem_cons_succ, List.setIfInBounds_toArray, List.set_cons_zero, List.set_cons_succ])
              refine wpAnyH_take (i := 9) (v := .bool ok) rfl (by kernel_rfl) (by kernel_rfl) (by kernel_rfl) (fun _ _ _ h => h) (Or.inl ⟨by rfl, ?_⟩) (by assumption) ?_
              · intro w' hSw; go_simp
              (try simp only [Act.put, List.getElem_toArray, List.getElem_cons_zero, List.getElem_cons_succ, List.setIfInBounds_toArray, List.set_cons_zero, List.set_cons_succ])
              refine wpAnyH_ready (rs := [11]) (by kernel_rfl) (by simp) (AllReadyH.cons rfl (fun K hK => ?_) AllReadyH.nil)
              have q0 := (HA4.out.blk (v2.heap.size, .cells #[.slice none 0 0, .slice none 0 0] 25) (by simp)).1
              have f0 := mem_free q0 0
              have f1 := mem_free q0 1
              have g0 := mem_cell q0 0
              have g1 := mem_cell q0 1
              simp only [List.getElem?_toArray, List.getElem?_cons_zero, List.getElem?_cons_succ] at g0 g1
              obtain ⟨E9, hE9⟩ : ∃ E9 : World, (v4.setCell ⟨v2.heap.size, 0, none⟩ (.slice sa q.shared.length sc)).setCell ⟨v2.heap.size, 1, none⟩ (.slice ta4 q.tasks.length tc4) = E9 := ⟨_, rfl⟩
              have hX9 : E9.heap[v2.heap.size]? = some (prgObj q sa sc ta4 tc4) := by rw [← hE9, mem_set (mem_set q0)]; rfl
              have HB9 : Hid (Below wr.heap.size wr E9) := by show Below _ _ _; rw [← hE9]; exact (HA4.out.bel.setCell (p := ⟨v2.heap.size, 0, none⟩) HA2.out.bel.size _).setCell (p := ⟨v2.heap.size, 1, none⟩) HA2.out.bel.size _
              have HPE : Hid (PrgAt E9 q sa ta4) := off_prg (dull_of q0) (fun k hk => by rw [← hE9, Below.heap_setCell _ _ _ _ hk, Below.heap_setCell _ _ _ _ hk]) HPQ4.out
              have HX9 := Lib.hid hX9
              clear q0 hX9
              go_simp
              try rw [hE9]
              clear hE9 f0 f1 g0 g1
              refine hK.out _ _ (HB9.out) (fun hHeld => ?_)
              clear hK K
              rename_i hOld
              clear hOld
              (try simp only [Act.put, List.getElem_toArray, List.getElem_cons_zero, List.getElem_cons_succ, List.setIfInBounds_toArray, List.set_cons_zero, List.set_cons_succ])
              refine wpAnyH_ready (rs := [12]) (by kernel_rfl) (by simp) (AllReadyH.cons rfl (fun K hK => ?_) AllReadyH.nil)
              go_simp
              refine hK.out _ _ (HB9.out) (fun hHeld => ?_)
              clear hK K
              rename_i hOld
              clear hOld
              (try simp only [Act.put, List.getElem_toArray, List.getElem_cons_zero, List.getElem_cons_succ, List.setIfInBounds_toArray, List.set_cons_zero, List.set_cons_succ])
              refine wpAnyH_done (by kernel_rfl) ?_ _
              exact ⟨[_, _, _, _, _, _, _, _, _, _], .pointer (some ⟨v2.heap.size, 0, none⟩), .bool ok, rfl, (by simp only [putAll, List.setIfInBounds_toArray, List.set_cons_zero, List.set_cons_succ]; rfl), v2.heap.size, ta4, tc4, rfl, rfl, HX9.out, HPE.out, HB9.out⟩
          · skip
            go_simp
            have HA2 := Lib.hid (HA1.out.alloc (.cells #[.slice none 0 0, .slice none 0 0] 25))
            refine hK.out _ _ (HA2.out.bel) (fun hHeld => ?_)
            clear hK K
            rename_i hOld
            clear hOld
            (try simp only [Act.put, List.getElem_toArray, List.getElem_cons_zero, List.getElem_cons_succ, List.setIfInBounds_toArray, List.set_cons_zero, List.set_cons_succ])
            generalize hw : World.alloc v1 _ = v2 at hHeld HA2 ⊢
            clear hw
            refine wpAnyH_ready (rs := [4]) (by kernel_rfl) (by simp) (AllReadyH.cons rfl (fun K hK => ?_) AllReadyH.nil)
            go_simp
            have HA3 := Lib.hid (HA2.out.alloc (.cells #[.int .u8 47, .int .i64 0, .string ⟨#[]⟩, .slice none 0 0] 43))
            refine hK.out _ _ (HA3.out.bel) (fun hHeld => ?_)
            clear hK K
            rename_i hOld
            clear hOld
            (try simp only [Act.put, List.getElem_toArray, List.getElem_cons_zero, List.getElem_cons_succ, List.setIfInBounds_toArray, List.set_cons_zero, List.set_cons_succ])
            generalize hw : World.alloc v2 _ = v3 at hHeld HA3 ⊢
            clear hw
            refine wpAnyH_take (i := 5) (v := .agg #[.int .u8 42, .int .i64 1, .string n.name, .slice (some ⟨v2.heap.size, 0, none⟩) 1 1]) rfl (by kernel_rfl) (by kernel_rfl) (by kernel_rfl) (fun _ _ _ h => h) (Or.inl ⟨by rfl, ?_⟩) (by assumption) ?_
            · intro w' hSw; go_simp
            (try simp only [Act.put, List.getElem_toArray, List.getElem_cons_zero, List.getElem_cons_succ, List.setIfInBounds_toArray, List.set_cons_zero, List.set_cons_succ])
            refine wpAnyH_ready (rs := [6]) (by kernel_rfl) (by simp) (AllReadyH.cons rfl (fun K hK => ?_) AllReadyH.nil)
            go_simp
            have h9 := HIN20.out v3 (some ⟨v2.heap.size, 0, none⟩) 1 (mem_then HZR.out HA3.out.bel) (forT_rep (HA3.out.blk (v2.heap.size, .cells #[.int .u8 47, .int .i64 0, .string ⟨#[]⟩, .slice none 0 0] 43) (by simp)).1 HFN.out.name)
            refine h9.mono ?_
            clear h9
            rintro e v4 ⟨ta4, tc4, rfl, hp4, hB4⟩
            have HA4 := Lib.hid (HA3.out.keep hB4)
            have HPQ4 := Lib.hid hp4
            clear hp4 hB4
            refine hK.out _ _ (HA4.out.bel) (fun hHeld => ?_)
            clear hK K
            rename_i hOld
            clear hOld
            (try simp only [Act.put, List.getElem_toArray, List.getElem_cons_zero, List.getElem_cons_succ, List.setIfInBounds_toArray, List.set_cons_zero, List.set_cons_succ])
            refine wpAnyH_take (i := 7) (v := .tuple #[.agg #[.slice sa q.shared.length sc, .slice ta4 q.tasks.length tc4], .bool ok]) rfl (by kernel_rfl) (by kernel_rfl) (by kernel_rfl) (fun _ _ _ h => h) (Or.inl ⟨by rfl, ?_⟩) (by assumption) ?_
            · intro w' hSw; go_simp
            (try simp only [Act.put, List.getElem_toArray, List.getElem_cons_zero, List.getElem_cons_succ, List.setIfInBounds_toArray, List.set_cons_zero, List.set_cons_succ])
            refine wpAnyH_take (i := 8) (v := .agg #[.slice sa q.shared.length sc, .slice ta4 q.tasks.length tc4]) rfl (by kernel_rfl) (by kernel_rfl) (by kernel_rfl) (fun _ _ _ h => h) (Or.inl ⟨by rfl, ?_⟩) (by assumption) ?_
            · intro w' hSw; go_simp
            (try simp only [Act.put, List.getElem_toArray, List.getElem_cons_zero, List.getElem_cons_succ, List.setIfInBounds_toArray, List.set_cons_zero, List.set_cons_succ])
            refine wpAnyH_take (i := 9) (v := .bool ok) rfl (by kernel_rfl) (by kernel_rfl) (by kernel_rfl) (fun _ _ _ h => h) (Or.inl ⟨by rfl, ?_⟩) (by assumption) ?_
            · intro w' hSw; go_simp
            (try simp only [Act.put, List.getElem_toArray, List.getElem_cons_zero, List.getElem_cons_succ, List.setIfInBounds_toArray, List.set_cons_zero, List.set_cons_succ])
            refine wpAnyH_ready (rs := [11]) (by kernel_rfl) (by simp) (AllReadyH.cons rfl (fun K hK => ?_) AllReadyH.nil)
            have q0 := (HA4.out.blk (v1.heap.size, .cells #[.slice none 0 0, .slice none 0 0] 25) (by simp)).1
            have f0 := mem_free q0 0
            have f1 := mem_free q0 1
            have g0 := mem_cell q0 0
            have g1 := mem_cell q0 1
            simp only [List.getElem?_toArray, List.getElem?_cons_zero, List.getElem?_cons_succ] at g0 g1
            obtain ⟨E9, hE9⟩ : ∃ E9 : World, (v4.setCell ⟨v1.heap.size, 0, none⟩ (.slice sa q.shared.length sc)).setCell ⟨v1.heap.size, 1, none⟩ (.slice ta4 q.tasks.length tc4) = E9 := ⟨_, rfl⟩
            have hX9 : E9.heap[v1.heap.size]? = some (prgObj q sa sc ta4 tc4) := by rw [← hE9, mem_set (mem_set q0)]; rfl
            have HB9 : Hid (Below wr.heap.size wr E9) := by show Below _ _ _; rw [← hE9]; exact (HA4.out.bel.setCell (p := ⟨v1.heap.size, 0, none⟩) HA1.out.bel.size _).setCell (p := ⟨v1.heap.size, 1, none⟩) HA1.out.bel.size _
            have HPE : Hid (PrgAt E9 q sa ta4) := off_prg (dull_of q0) (fun k hk => by rw [← hE9, Below.heap_setCell _ _ _ _ hk, Below.heap_setCell _ _ _ _ hk]) HPQ4.out
            have HX9 := Lib.hid hX9
            clear q0 hX9
            go_simp
            try rw [hE9]
            clear hE9 f0 f1 g0 g1
            refine hK.out _ _ (HB9.out) (fun hHeld => ?_)
            clear hK K
            rename_i hOld
            clear hOld
            (try simp only [Act.put, List.getElem_toArray, List.getElem_cons_zero, List.getElem_cons_succ, List.setIfInBounds_toArray, List.set_cons_zero, List.set_cons_succ])
            refine wpAnyH_ready (rs := [12]) (by kernel_rfl) (by simp) (AllReadyH.cons rfl (fun K hK => ?_) AllReadyH.nil)
            go_simp
            refine hK.out _ _ (HB9.out) (fun hHeld => ?_)
            clear hK K
            rename_i hOld
            clear hOld
            (try simp only [Act.put, List.getElem_toArray, List.getElem_cons_zero, List.getElem_cons_succ, List.setIfInBounds_toArray, List.set_cons_zero, List.set_cons_succ])
            refine wpAnyH_done (by kernel_rfl) ?_ _
            exact ⟨[_, _, _, _, _, _, _, _, _, _], .pointer (some ⟨v1.heap.size, 0, none⟩), .bool ok, rfl, (by simp only [putAll, List.setIfInBounds_toArray, List.set_cons_zero, List.set_cons_succ]; rfl), v1.heap.size, ta4, tc4, rfl, rfl, HX9.out, HPE.out, HB9.out⟩
        · skip
          go_simp
          have HA1 := Lib.hid (HA0.out.alloc (.cells #[.slice none 0 0, .slice none 0 0] 25))
          refine hK.out _ _ (HA1.out.bel) (fun hHeld => ?_)
          clear hK K
          rename_i hOld
          clear hOld
          (try simp only [Act.put, List.getElem_toArray, List.getElem_cons_zero, List.getElem_cons_succ, List.setIfInBounds_toArray, List.set_cons_zero, List.set_cons_succ])
          generalize hw : World.alloc v0 _ = v1 at hHeld HA1 ⊢
          clear hw
          refine wpAnyH_ready (rs := [3]) (by kernel_rfl) (by simp) (AllReadyH.cons rfl (fun K hK => ?_) AllReadyH.nil)
          go_simp
          refine (block_any v1 none 0 0).mono ?_
          rintro e v2 ⟨rfl, hB2⟩
          have HA2 := Lib.hid (HA1.out.keep hB2)
          clear hB2
          refine hK.out _ _ (HA2.out.bel) (fun hHeld => ?_)
          clear hK K
          rename_i hOld
          clear hOld
          (try simp only [Act.put, List.getElem_toArray, List.getElem_cons_zero, List.getElem_cons_succ, List.setIfInBounds_toArray, List.set_cons_zero, List.set_cons_succ])
          refine wpAnyH_ready (rs := [4]) (by kernel_rfl) (by simp) (AllReadyH.cons rfl (fun K hK => ?_) AllReadyH.nil)
          go_simp
          have HA3 := Lib.hid (HA2.out.alloc (.cells #[.int .u8 47, .int .i64 0, .string ⟨#[]⟩, .slice none 0 0] 43))
          refine hK.out _ _ (HA3.out.bel) (fun hHeld => ?_)
          clear hK K
          rename_i hOld
          clear hOld
          (try simp only [Act.put, List.getElem_toArray, List.getElem_cons_zero, List.getElem_cons_succ, List.setIfInBounds_toArray, List.set_cons_zero, List.set_cons_succ])
          generalize hw : World.alloc v2 _ = v3 at hHeld HA3 ⊢
          clear hw
          refine wpAnyH_take (i := 5) (v := .agg #[.int .u8 42, .int .i64 1, .string n.name, .slice (some ⟨v2.heap.size, 0, none⟩) 1 1]) rfl (by kernel_rfl) (by kernel_rfl) (by kernel_rfl) (fun _ _ _ h => h) (Or.inl ⟨by rfl, ?_⟩) (by assumption) ?_
          · intro w' hSw; go_simp
          (try simp only [Act.put, List.getElem_toArray, List.getElem_cons_zero, List.getElem_cons_succ, List.setIfInBounds_toArray, List.set_cons_zero, List.set_cons_succ])
          refine wpAnyH_ready (rs := [6]) (by kernel_rfl) (by simp) (AllReadyH.cons rfl (fun K hK => ?_) AllReadyH.nil)
          go_simp
          have h9 := HIN20.out v3 (some ⟨v2.heap.size, 0, none⟩) 1 (mem_then HZR.out HA3.out.bel) (forT_rep (HA3.out.blk (v2.heap.size, .cells #[.int .u8 47, .int .i64 0, .string ⟨#[]⟩, .slice none 0 0] 43) (by simp)).1 HFN.out.name)
          refine h9.mono ?_
          clear h9
          rintro e v4 ⟨ta4, tc4, rfl, hp4, hB4⟩
          have HA4 := Lib.hid (HA3.out.keep hB4)
          have HPQ4 := Lib.hid hp4
          clear hp4 hB4
          refine hK.out _ _ (HA4.out.bel) (fun hHeld => ?_)
          clear hK K
          rename_i hOld
          clear hOld
          (try simp only [Act.put, List.getElem_toArray, List.getElem_cons_zero, List.getElem_cons_succ, List.setIfInBounds_toArray, List.set_cons_zero, List.set_cons_succ])
          refine wpAnyH_take (i := 7) (v := .tuple #[.agg #[.slice sa q.shared.length sc, .slice ta4 q.tasks.length tc4], .bool ok]) rfl (by kernel_rfl) (by kernel_rfl) (by kernel_rfl) (fun _ _ _ h => h) (Or.inl ⟨by rfl, ?_⟩) (by assumption) ?_
          · intro w' hSw; go_simp
          (try simp only [Act.put, List.getElem_toArray, List.getElem_cons_zero, List.getElem_cons_succ, List.setIfInBounds_toArray, List.set_cons_zero, List.set_cons_succ])
          refine wpAnyH_take (i := 8) (v := .agg #[.slice sa q.shared.length sc, .slice ta4 q.tasks.length tc4]) rfl (by kernel_rfl) (by kernel_rfl) (by kernel_rfl) (fun _ _ _ h => h) (Or.inl ⟨by rfl, ?_⟩) (by assumption) ?_
          · intro w' hSw; go_simp
          (try simp only [Act.put, List.getElem_toArray, List.getElem_cons_zero, List.getElem_cons_succ, List.setIfInBounds_toArray, List.set_cons_zero, List.set_cons_succ])
          refine wpAnyH_take (i := 9) (v := .bool ok) rfl (by kernel_rfl) (by kernel_rfl) (by kernel_rfl) (fun _ _ _ h => h) (Or.inl ⟨by rfl, ?_⟩) (by assumption) ?_
          · intro w' hSw; go_simp
          (try simp only [Act.put, List.getElem_toArray, List.getElem_cons_zero, List.getElem_cons_succ, List.setIfInBounds_toArray, List.set_cons_zero, List.set_cons_succ])
          refine wpAnyH_ready (rs := [11]) (by kernel_rfl) (by simp) (AllReadyH.cons rfl (fun K hK => ?_) AllReadyH.nil)
          have q0 := (HA4.out.blk (v0.heap.size, .cells #[.slice none 0 0, .slice none 0 0] 25) (by simp)).1
          have f0 := mem_free q0 0
          have f1 := mem_free q0 1
          have g0 := mem_cell q0 0
          have g1 := mem_cell q0 1
          simp only [List.getElem?_toArray, List.getElem?_cons_zero, List.getElem?_cons_succ] at g0 g1
          obtain ⟨E9, hE9⟩ : ∃ E9 : World, (v4.setCell ⟨v0.heap.size, 0, none⟩ (.slice sa q.shared.length sc)).setCell ⟨v0.heap.size, 1, none⟩ (.slice ta4 q.tasks.length tc4) = E9 := ⟨_, rfl⟩
          have hX9 : E9.heap[v0.heap.size]? = some (prgObj q sa sc ta4 tc4) := by rw [← hE9, mem_set (mem_set q0)]; rfl
          have HB9 : Hid (Below wr.heap.size wr E9) := by show Below _ _ _; rw [← hE9]; exact (HA4.out.bel.setCell (p := ⟨v0.heap.size, 0, none⟩) HA0.out.bel.size _).setCell (p := ⟨v0.heap.size, 1, none⟩) HA0.out.bel.size _
          have HPE : Hid (PrgAt E9 q sa ta4) := off_prg (dull_of q0) (fun k hk => by rw [← hE9, Below.heap_setCell _ _ _ _ hk, Below.heap_setCell _ _ _ _ hk]) HPQ4.out
          have HX9 := Lib.hid hX9
          clear q0 hX9
          go_simp
          try rw [hE9]
          clear hE9 f0 f1 g0 g1
          refine hK.out _ _ (HB9.out) (fun hHeld => ?_)
          clear hK K
          rename_i hOld
          clear hOld
          (try simp only [Act.put, List.getElem_toArray, List.getElem_cons_zero, List.getElem_cons_succ, List.setIfInBounds_toArray, List.set_cons_zero, List.set_cons_succ])
          refine wpAnyH_ready (rs := [12]) (by kernel_rfl) (by simp) (AllReadyH.cons rfl (fun K hK => ?_) AllReadyH.nil)
          go_simp
          refine hK.out _ _ (HB9.out) (fun hHeld => ?_)
          clear hK K
          rename_i hOld
          clear hOld
          (try simp only [Act.put, List.getElem_toArray, List.getElem_cons_zero, List.getElem_cons_succ, List.setIfInBounds_toArray, List.set_cons_zero, List.set_cons_succ])
          refine wpAnyH_done (by kernel_rfl) ?_ _
          exact ⟨[_, _, _, _, _, _, _, _, _, _], .pointer (some ⟨v0.heap.size, 0, none⟩), .bool ok, rfl, (by simp only [putAll, List.setIfInBounds_toArray, List.set_cons_zero, List.set_cons_succ]; rfl), v0.heap.size, ta4, tc4, rfl, rfl, HX9.out, HPE.out, HB9.out⟩
      rintro a' w7 ⟨l, v1, v2, hl, rfl, qb, ta7, tc7, rfl, rfl, hqb, hp7, hB7⟩
      obtain ⟨l0, l1, l2, l3, l4, l5, l6, l7, l8, l9, rfl⟩ := list10i hl
      simp only [putAll, List.setIfInBounds_toArray, List.set_cons_zero, List.set_cons_succ]
      have HB7 : Hid (Below Z.heap.size Z w7) := mem_then HZR.out hB7
      have HQ7 := Lib.hid hqb
      have HP7 := Lib.hid hp7
      have HY7 : Hid (Below w6.heap.size w6 w7) := mem_then HY6.out (mem_then HBR.out hB7)
      have HK7 : Hid (∀ w', Below w7.heap.size w7 w' → Below w.heap.size w w' ∧ w'.heap[w.heap.size]? = some (prgObj p sa sc (some ⟨tb, tf, none⟩) tc) ∧ PrgAt w' p sa (some ⟨tb, tf, none⟩) ∧ SignsIn w' ∧ w'.heap[w2.heap.size]? = some (.cells #[.int .i64 (i : Int)] 3)) := fun w' h => by
        obtain ⟨h1, h2, h3, h4, h5, _⟩ := HKZ.out w' (mem_then HB7.out h)
        exact ⟨h1, h2, h3, h4, h5⟩
      clear hl hqb hp7 hB7 HIN20
      obtain ⟨V7, hV7⟩ : ∃ N : World, w7.alloc (.cells #[.slice A6 last.length c6] 33) = N := ⟨_, rfl⟩
      have hBV7 : Below w7.heap.size w7 V7 := by rw [← hV7]; exact mem_alloc _ _
      have hXV7 : V7.heap[w7.heap.size]? = some (.cells #[.slice A6 last.length c6] 33) := by rw [← hV7]; exact mem_new _ _
      have HPS7 : Hid (PathsAt V7 (some ⟨w7.heap.size, 0, none⟩) [last]) := ⟨by show 1 ≤ _; omega, fun m hm => by
        have hm : m < 1 := hm
        obtain rfl : m = 0 := by omega
        have h0 : PathV Z.heap.size w6 (.slice A6 last.length c6) last := HOWN6.out
        exact ⟨w7.heap.size, 0, A6, c6, rfl, mem_cell hXV7 0, (h0.row.below HY7.out).below hBV7⟩⟩
      have HBV7 := Lib.hid hBV7
      have HO7 := Lib.hid (only_any q (i : Int) 8 [last] V7 sa ta7 (some ⟨w7.heap.size, 0, none⟩) sc tc7 1 (HP7.out.below hBV7) (HK7.out V7 hBV7).2.2.2.1 HPS7.out)
      have e0 := mem_cell HQ7.out 0
      have e1 := mem_cell HQ7.out 1
      have e2 := mem_cell (HK7.out w7 (Below.refl _ _)).2.2.2.2 0
      simp only [List.getElem?_toArray, List.getElem?_cons_zero, List.getElem?_cons_succ] at e0 e1 e2
      clear hBV7 hXV7
      go_upto_region 21 with fail
      go_cut [138] (fun s w' => s = .bool false ∧ Below w7.heap.size w7 w')
      case first =>
        cases ok with
        | false =>
          go_wp2_with fail
          go_meet
          exact ⟨rfl, Below.refl _ _⟩
        | true =>
          have hon := HON20.out rfl
          have HO := Lib.hid hon
          clear hon
          go_wp2_with fail
          clear hV7 e0 e1 e2
          have h9 := HO7.out
          refine h9.mono ?_
          clear h9
          rintro e w8 ⟨he, hB8⟩
          rw [HO.out] at he
          subst he
          have HB8 : Hid (Below w7.heap.size w7 w8) := mem_then HBV7.out hB8
          clear hB8
          go_wp2_with fail
          go_meet
          exact ⟨rfl, HB8.out⟩
      obtain ⟨rfl, hBC⟩ := hcut
      have HBC := Lib.hid hBC
      clear hBC hV7 HPS7 HO7 HBV7 e0 e1 e2
      obtain ⟨w8, hw8⟩ : ∃ w8 : World, w8 = wc := ⟨_, rfl⟩
      rw [← hw8] at HBC ⊢
      clear hw8
      have HZ8 : Hid (Below Z.heap.size Z w8) := mem_then HB7.out HBC.out
      -- an Out statement in the loop
      obtain ⟨⟨p0, p1, p2, p3⟩, _⟩ := blk4 (HPL.out w8 HZ8.out)
      obtain ⟨q2, hq2⟩ : ∃ q, swapP p i (insT t path u (outT n.name)) = q := ⟨_, rfl⟩
      obtain ⟨ok2, hok2⟩ : ∃ ok, prgOk q2 = ok := ⟨_, rfl⟩
      obtain ⟨X8, hX8⟩ : ∃ N : World, w8.alloc (.cells #[.int .u8 2, .int .i64 0, .string n.name, .slice none 0 0] 43) = N := ⟨_, rfl⟩
      have hBX8 : Below w8.heap.size w8 X8 := by rw [← hX8]; exact mem_alloc _ _
      have hXX8 : X8.heap[w8.heap.size]? = some (.cells #[.int .u8 2, .int .i64 0, .string n.name, .slice none 0 0] 43) := by rw [← hX8]; exact mem_new _ _
      have hin23 : Calls Tryd.prog 40 #[.agg #[.int .u8 45, .int .i64 0, .string ⟨#[]⟩, .slice (some ⟨w8.heap.size, 0, none⟩) 1 1], .pointer (some ⟨I1.heap.size, 0, none⟩), .pointer (some ⟨w4.heap.size, 0, none⟩), .pointer (some ⟨w.heap.size, 0, none⟩), .pointer (some ⟨w2.heap.size, 0, none⟩)] X8 fun e w'' => ∃ ta' tc', e = .returned (.tuple #[.agg #[.slice sa q2.shared.length sc, .slice ta' q2.tasks.length tc'], .bool ok2]) ∧ PrgAt w'' q2 sa ta' ∧ Below X8.heap.size X8 w'' := by
        have h := HIN.out (outT n.name) X8 (some ⟨w8.heap.size, 0, none⟩) 1 (mem_then HZ8.out hBX8) (outT_rep hXX8 HFN.out.name)
        rw [hq2, hok2] at h
        exact h
      have HIN23 := Lib.hid hin23
      have HON23 : Hid (ok2 = true → okP q2 = true) := fun hv => by
        rw [← hq2]
        exact ins_out HT.out HOK.out hil HLOOP.out (by rw [hq2, hok2]; exact hv)
      have HBX8 := Lib.hid (mem_then HZ8.out hBX8)
      clear hq2 hok2 hin23 hBX8 hXX8
      go_wp2_with fail
      clear hX8 p0 p1 p2 p3
      have h9 := HIN23.out
      refine h9.mono ?_
      clear h9 HIN23
      rintro e w9 ⟨ta9, tc9, rfl, hp9, hB9⟩
      obtain ⟨F9, hF9⟩ : ∃ N : World, w9.alloc (prgObj q2 sa sc ta9 tc9) = N := ⟨_, rfl⟩
      have hBF9 : Below w9.heap.size w9 F9 := by rw [← hF9]; exact mem_alloc _ _
      have hQ9 : F9.heap[w9.heap.size]? = some (prgObj q2 sa sc ta9 tc9) := by rw [← hF9]; exact mem_new _ _
      have HZ9 : Hid (Below Z.heap.size Z F9) := mem_then HBX8.out (mem_then hB9 hBF9)
      have HO9 := Lib.hid (ok15_any q2 F9 sa ta9 sc tc9 (hp9.below hBF9) (HKZ.out F9 HZ9.out).2.2.2.1)
      have e0 := mem_cell hQ9 0
      have e1 := mem_cell hQ9 1
      simp only [List.getElem?_toArray, List.getElem?_cons_zero, List.getElem?_cons_succ] at e0 e1
      clear hp9 hB9 hBF9 hQ9
      go_upto_region 24 with fail
      clear hF9
      go_cut [152] (fun s w' => s = .bool false ∧ Below F9.heap.size F9 w')
      case first =>
        cases ok2 with
        | false =>
          go_wp2_with fail
          go_meet
          exact ⟨rfl, Below.refl _ _⟩
        | true =>
          have hon := HON23.out rfl
          have HO := Lib.hid hon
          clear hon
          go_wp2_with fail
          clear e0 e1
          have h9 := HO9.out
          refine h9.mono ?_
          clear h9
          rintro e w10 ⟨he, hB10⟩
          rw [HO.out] at he
          subst he
          have HB10 := Lib.hid hB10
          clear hB10
          go_wp2_with fail
          go_meet
          exact ⟨rfl, HB10.out⟩
      obtain ⟨rfl, hBC⟩ := hcut
      have HBC2 := Lib.hid hBC
      clear hBC HO9 e0 e1
      obtain ⟨w10, hw10⟩ : ∃ w10 : World, w10 = wc := ⟨_, rfl⟩
      rw [← hw10] at HBC2 ⊢
      clear hw10
      have HZ10 : Hid (Below Z.heap.size Z w10) := mem_then HZ9.out HBC2.out
      -- an Out statement behind the loop
      have HT10 : Hid (∀ w', Below w10.heap.size w10 w' → w'.heap[I1.heap.size]? = some (tskObj t ⟨qva, qvc, qaa, qac, qka, qkc⟩)) := fun w' h => (HKZ.out w' (mem_then HZ10.out h)).2.2.2.2.2.1
      have HI10 : Hid (TskIn w10 t ⟨qva, qvc, qaa, qac, qka, qkc⟩) := (HKZ.out w10 HZ10.out).2.2.2.2.2.2.1
      obtain ⟨x, hsrcb, hkids⟩ := rep_src HI10.out.body
      have HSRCB := Lib.hid hsrcb
      have HKIDS := Lib.hid hkids
      have hbl : t.body.len ≤ 10000 := by
        have h2 := len_le_size t.body
        have := (tskOk_le HTOK.out).2.2
        omega
      obtain ⟨G, hG⟩ : ∃ N : World, w10.alloc (tskObj t ⟨qva, qvc, qaa, qac, qka, qkc⟩) = N := ⟨_, rfl⟩
      have HBW : Hid (Below w10.heap.size w10 G) := by show Below _ _ _; rw [← hG]; exact mem_alloc _ _
      have HTB2 : Hid (G.heap[w10.heap.size]? = some (tskObj t ⟨qva, qvc, qaa, qac, qka, qkc⟩)) := by show _ = _; rw [← hG]; exact mem_new _ _
      have HLG : Hid (w10.heap.size < G.heap.size) := mem_lt HTB2.out
      have hx0 := HT10.out w10 (Below.refl _ _)
      have x0 := mem_cell hx0 0
      have x1 := mem_cell hx0 1
      have x2 := mem_cell hx0 2
      have x3 := mem_cell hx0 3
      have x4 := mem_cell hx0 4
      have x5 := mem_cell hx0 5
      have x6 := mem_cell hx0 6
      have x7 := mem_cell hx0 7
      simp only [Tsk.cells, List.getElem?_toArray, List.getElem?_cons_zero, List.getElem?_cons_succ] at x0 x1 x2 x3 x4 x5 x6 x7
      obtain ⟨n0, hni, nz0, nz1, nz2⟩ := info_parts inode_info
      clear hsrcb hkids hx0
      go_wp2_with fail
      clear hG x0 x1 x2 x3 x4 x5 x6 x7
      refine cut_runA (RunEnd 154 12 (fun w' => ∃ a c, w'.heap[w10.heap.size]? = some (tskObj (bodyT t (endT t (outT n.name))) ⟨qva, qvc, qaa, qac, a, c⟩) ∧ Rep w' (endT t (outT n.name)) a ∧ Below w10.heap.size w10 w')) ?_ ?_
      · skip
        refine wp_region_held_drew (S := fun w' => Below w10.heap.size w10 w') (by kernel_rfl) (mem_then HBW.out (((Below.refl _ _).drew))) (fun hHeld => ?_)
        have hD0 : Below G.heap.size G (World.drew G) := (Below.refl _ _).drew
        generalize hw0 : World.drew G = v0 at hHeld hD0 ⊢
        clear hw0
        have HA0 : Hid (AppSt G ([] : List (Nat × Obj)) 43 4 (.slice none 0 0) 0 [] v0) := AppSt.begin hD0 (fun x hx => by cases hx)
        clear hD0
        refine wpAnyH_take (i := 1) (v := .pointer (some ⟨I1.heap.size, 4, none⟩)) rfl (by kernel_rfl) (by kernel_rfl) (by kernel_rfl) (fun _ _ _ h => h) (Or.inl ⟨by rfl, ?_⟩) (by assumption) ?_
        · intro w' hSw; go_simp
        (try simp only [Act.put, List.getElem_toArray, List.getElem_cons_zero, List.getElem_cons_succ, List.setIfInBounds_toArray, List.set_cons_zero, List.set_cons_succ])
        refine wpAnyH_take (i := 2) (v := .pointer (some ⟨I1.heap.size, 7, none⟩)) rfl (by kernel_rfl) (by kernel_rfl) (by kernel_rfl) (fun _ _ _ h => h) (Or.inl ⟨by rfl, ?_⟩) (by assumption) ?_
        · intro w' hSw; go_simp
        (try simp only [Act.put, List.getElem_toArray, List.getElem_cons_zero, List.getElem_cons_succ, List.setIfInBounds_toArray, List.set_cons_zero, List.set_cons_succ])
        refine wpAnyH_take (i := 3) (v := .slice qka t.body.len qkc) rfl (by kernel_rfl) (by kernel_rfl) (by kernel_rfl) (fun _ _ _ h => h) (Or.inl ⟨by rfl, ?_⟩) (by assumption) ?_
        · intro w' hSw; have z4 := mem_cell (HT10.out _ hSw) 4; have z5 := mem_cell (HT10.out _ hSw) 5; have z6 := mem_cell (HT10.out _ hSw) 6; have z7 := mem_cell (HT10.out _ hSw) 7; simp only [Tsk.cells, List.getElem?_toArray, List.getElem?_cons_zero, List.getElem?_cons_succ] at z4 z5 z6 z7; go_simp
        (try simp only [Act.put, List.getElem_toArray, List.getElem_cons_zero, List.getElem_cons_succ, List.setIfInBounds_toArray, List.set_cons_zero, List.set_cons_succ])
        refine wpAnyH_take (i := 5) (v := .agg #[.int .u8 2, .int .i64 0, .string n.name, .slice none 0 0]) rfl (by kernel_rfl) (by kernel_rfl) (by kernel_rfl) (fun _ _ _ h => h) (Or.inl ⟨by rfl, ?_⟩) (by assumption) ?_
        · intro w' hSw; obtain ⟨⟨z0, z1, z2, z3⟩, _⟩ := blk4 (HPL.out _ (mem_then HZ10.out hSw)); go_simp
        (try simp only [Act.put, List.getElem_toArray, List.getElem_cons_zero, List.getElem_cons_succ, List.setIfInBounds_toArray, List.set_cons_zero, List.set_cons_succ])
        refine wpAnyH_ready (rs := [0, 6]) (by kernel_rfl) (by simp) (AllReadyH.cons rfl (fun K hK => ?_) (AllReadyH.cons rfl (fun K hK => ?_) AllReadyH.nil))
        · skip
          go_simp
          have HA1 := Lib.hid HA0.out.start
          refine hK.out _ _ (mem_then HBW.out (HA1.out.bel)) (fun hHeld => ?_)
          clear hK K
          rename_i hOld
          clear hOld
          (try simp only [Act.put, List.getElem_toArray, List.getElem_cons_zero, List.getElem_cons_succ, List.setIfInBounds_toArray, List.set_cons_zero, List.set_cons_succ])
          generalize hw : World.alloc v0 _ = v1 at hHeld HA1 ⊢
          clear hw
          refine wpAnyH_ready (rs := [4, 6]) (by kernel_rfl) (by simp) (AllReadyH.cons rfl (fun K hK => ?_) (AllReadyH.cons rfl (fun K hK => ?_) AllReadyH.nil))
          · skip
            refine step_append_src _ rfl (.tmp 154) (.tmp 157) 41 rfl G.heap.size 43 n0 _ 4 56 Tryd.underlying41 hni nz0 nz1 nz2 rfl (by decide) (.slice (some ⟨v0.heap.size, 0, none⟩) 0 0) 0 [] (by simp [Act.eval]) HA1.out.own qka t.body.len qkc (rowsTo t.body.kid x t.body.len) (by simp [Act.eval]) ((HSRCB.out.below HBW.out).below HA1.out.bel) rowsTo_oneL (by unfold maxLen; omega) (by omega) HA1.out.bel.size ?_
            intro r2 v2 hown hgrow hplace
            rw [Nat.zero_add, List.nil_append] at hown
            obtain ⟨ra2, rc2, rfl⟩ := own_val hown
            have HA2 := Lib.hid (HA1.out.grow hown hgrow hplace)
            refine hK.out _ _ (mem_then HBW.out (HA2.out.bel)) (fun hHeld => ?_)
            clear hK K hown hgrow hplace
            rename_i hOld
            clear hOld
            (try simp only [Act.put, List.getElem_toArray, List.getElem_cons_zero, List.getElem_cons_succ, List.setIfInBounds_toArray, List.set_cons_zero, List.set_cons_succ])
            refine wpAnyH_ready (rs := [6]) (by kernel_rfl) (by simp) (AllReadyH.cons rfl (fun K hK => ?_) AllReadyH.nil)
            go_simp
            have HA3 := Lib.hid (HA2.out.alloc (.cells #[.int .u8 2, .int .i64 0, .string n.name, .slice none 0 0] 43))
            refine hK.out _ _ (mem_then HBW.out (HA3.out.bel)) (fun hHeld => ?_)
            clear hK K
            rename_i hOld
            clear hOld
            (try simp only [Act.put, List.getElem_toArray, List.getElem_cons_zero, List.getElem_cons_succ, List.setIfInBounds_toArray, List.set_cons_zero, List.set_cons_succ])
            generalize hw : World.alloc v2 _ = v3 at hHeld HA3 ⊢
            clear hw
            refine wpAnyH_take (i := 7) (v := .agg #[.int .u8 45, .int .i64 0, .string ⟨#[]⟩, .slice (some ⟨v2.heap.size, 0, none⟩) 1 1]) rfl (by kernel_rfl) (by kernel_rfl) (by kernel_rfl) (fun _ _ _ h => h) (Or.inl ⟨by rfl, ?_⟩) (by assumption) ?_
            · intro w' hSw; go_simp
            (try simp only [Act.put, List.getElem_toArray, List.getElem_cons_zero, List.getElem_cons_succ, List.setIfInBounds_toArray, List.set_cons_zero, List.set_cons_succ])
            refine wpAnyH_ready (rs := [8]) (by kernel_rfl) (by simp) (AllReadyH.cons rfl (fun K hK => ?_) AllReadyH.nil)
            go_simp
            have HA4 := Lib.hid (HA3.out.alloc (.cells #[.int .u8 45, .int .i64 0, .string ⟨#[]⟩, .slice (some ⟨v2.heap.size, 0, none⟩) 1 1] 43))
            refine hK.out _ _ (mem_then HBW.out (HA4.out.bel)) (fun hHeld => ?_)
            clear hK K
            rename_i hOld
            clear hOld
            (try simp only [Act.put, List.getElem_toArray, List.getElem_cons_zero, List.getElem_cons_succ, List.setIfInBounds_toArray, List.set_cons_zero, List.set_cons_succ])
            generalize hw : World.alloc v3 _ = v4 at hHeld HA4 ⊢
            clear hw
            refine wpAnyH_ready (rs := [9]) (by kernel_rfl) (by simp) (AllReadyH.cons rfl (fun K hK => ?_) AllReadyH.nil)
            refine step_append_src _ rfl (.tmp 158) (.tmp 162) 41 rfl G.heap.size 43 n0 _ 4 56 Tryd.underlying41 hni nz0 nz1 nz2 rfl (by decide) (.slice ra2 t.body.len rc2) t.body.len ((rowsTo t.body.kid x t.body.len)) (by simp [Act.eval]) HA4.out.own (some ⟨v3.heap.size, 0, none⟩) 1 1 [.int .u8 45, .int .i64 0, .string ⟨#[]⟩, .slice (some ⟨v2.heap.size, 0, none⟩) 1 1] (by simp [Act.eval]) (one_src (cs := [.int .u8 45, .int .i64 0, .string ⟨#[]⟩, .slice (some ⟨v2.heap.size, 0, none⟩) 1 1]) (n := 1) (HA4.out.blk (v3.heap.size, .cells #[.int .u8 45, .int .i64 0, .string ⟨#[]⟩, .slice (some ⟨v2.heap.size, 0, none⟩) 1 1] 43) (by simp)).1 rfl) (by simp [Value.oneCell']) (by unfold maxLen; omega) (by omega) HA4.out.bel.size ?_
            intro r5 v5 hown hgrow hplace
            obtain ⟨ra5, rc5, rfl⟩ := own_val hown
            have HA5 := Lib.hid (HA4.out.grow hown hgrow hplace)
            refine hK.out _ _ (mem_then HBW.out (HA5.out.bel)) (fun hHeld => ?_)
            clear hK K hown hgrow hplace
            rename_i hOld
            clear hOld
            (try simp only [Act.put, List.getElem_toArray, List.getElem_cons_zero, List.getElem_cons_succ, List.setIfInBounds_toArray, List.set_cons_zero, List.set_cons_succ])
            refine wpAnyH_ready (rs := [10]) (by kernel_rfl) (by simp) (AllReadyH.cons rfl (fun K hK => ?_) AllReadyH.nil)
            go_simp
            refine (block_any v5 ra5 (t.body.len + 1) rc5).mono ?_
            rintro e v99 ⟨rfl, hB99⟩
            have HA99 := Lib.hid (HA5.out.keep hB99)
            clear hB99
            refine hK.out _ _ (mem_then HBW.out HA99.out.bel) (fun hHeld => ?_)
            clear hK K
            rename_i hOld
            clear hOld
            (try simp only [Act.put, List.getElem_toArray, List.getElem_cons_zero, List.getElem_cons_succ, List.setIfInBounds_toArray, List.set_cons_zero, List.set_cons_succ])
            refine wpAnyH_take (i := 11) (v := .pointer (some ⟨w10.heap.size, 4, none⟩)) rfl (by kernel_rfl) (by kernel_rfl) (by kernel_rfl) (fun _ _ _ h => h) (Or.inl ⟨by rfl, ?_⟩) (by assumption) ?_
            · intro w' hSw; go_simp
            (try simp only [Act.put, List.getElem_toArray, List.getElem_cons_zero, List.getElem_cons_succ, List.setIfInBounds_toArray, List.set_cons_zero, List.set_cons_succ])
            have q0 := mem_keep HTB2.out HA99.out.bel
            have f4 := mem_free q0 4
            have f5 := mem_free q0 5
            have f6 := mem_free q0 6
            have f7 := mem_free q0 7
            have g4 := mem_cell q0 4
            have g5 := mem_cell q0 5
            have g6 := mem_cell q0 6
            have g7 := mem_cell q0 7
            simp only [Tsk.cells, List.getElem?_toArray, List.getElem?_cons_zero, List.getElem?_cons_succ] at g4 g5 g6 g7
            obtain ⟨E9, hE9⟩ : ∃ E9 : World, (((v99.setCell ⟨w10.heap.size, 4, none⟩ (.int .u8 47)).setCell ⟨w10.heap.size, 5, none⟩ (.int .i64 0)).setCell ⟨w10.heap.size, 6, none⟩ (.string ⟨#[]⟩)).setCell ⟨w10.heap.size, 7, none⟩ (.slice ra5 (t.body.len + 1) rc5) = E9 := ⟨_, rfl⟩
            have hX9 : E9.heap[w10.heap.size]? = some (tskObj (bodyT t (endT t (outT n.name))) ⟨qva, qvc, qaa, qac, ra5, rc5⟩) := by rw [← hE9, mem_set (mem_set (mem_set (mem_set q0)))]; rfl
            have hoth : ∀ k, k ≠ w10.heap.size → E9.heap[k]? = v99.heap[k]? := fun k hk => by rw [← hE9, Below.heap_setCell _ _ _ _ hk, Below.heap_setCell _ _ _ _ hk, Below.heap_setCell _ _ _ _ hk, Below.heap_setCell _ _ _ _ hk]
            have HB9 : Hid (Below w10.heap.size w10 E9) := by show Below _ _ _; rw [← hE9]; exact ((((mem_then HBW.out HA99.out.bel).setCell (p := ⟨w10.heap.size, 4, none⟩) (Nat.le_refl _) _).setCell (p := ⟨w10.heap.size, 5, none⟩) (Nat.le_refl _) _).setCell (p := ⟨w10.heap.size, 6, none⟩) (Nat.le_refl _) _).setCell (p := ⟨w10.heap.size, 7, none⟩) (Nat.le_refl _) _
            have HR9 : Hid (Rep E9 (endT t (outT n.name)) ra5) := by
              have hlG := HLG.out
              refine end_rep (own_keep HA99.out.own (fun k hk _ => hoth k (by have := (own_lt HA99.out.own hk).1; omega))) (fun j hj => ((HKIDS.out j hj).below HB9.out)) ?_ (by omega)
              have hb6 := HA99.out.blk (v2.heap.size, .cells #[.int .u8 2, .int .i64 0, .string n.name, .slice none 0 0] 43) (by simp)
              exact outT_rep ((hoth _ (by have := HA2.out.bel.size; omega)).trans hb6.1) HFN.out.name
            have HX9 := Lib.hid hX9
            clear q0 hX9 hoth
            refine wpAnyH_ready (rs := [12]) (by kernel_rfl) (by simp) (AllReadyH.cons rfl (fun K hK => ?_) AllReadyH.nil)
            go_simp
            try rw [hE9]
            clear hE9 f4 f5 f6 f7 g4 g5 g6 g7
            refine hK.out _ _ (HB9.out) (fun hHeld => ?_)
            clear hK K
            rename_i hOld
            clear hOld
            (try simp only [Act.put, List.getElem_toArray, List.getElem_cons_zero, List.getElem_cons_succ, List.setIfInBounds_toArray, List.set_cons_zero, List.set_cons_succ])
            refine wpAnyH_done (by kernel_rfl) ?_ _
            exact ⟨[_, _, _, _, _, _, _, _, _, _, _, _], rfl, (by simp only [putAll, List.setIfInBounds_toArray, List.set_cons_zero, List.set_cons_succ]; rfl), ra5, rc5, HX9.out, HR9.out, HB9.out⟩
          · skip
            go_simp
            have HA2 := Lib.hid (HA1.out.alloc (.cells #[.int .u8 2, .int .i64 0, .string n.name, .slice none 0 0] 43))
            refine hK.out _ _ (mem_then HBW.out (HA2.out.bel)) (fun hHeld => ?_)
            clear hK K
            rename_i hOld
            clear hOld
            (try simp only [Act.put, List.getElem_toArray, List.getElem_cons_zero, List.getElem_cons_succ, List.setIfInBounds_toArray, List.set_cons_zero, List.set_cons_succ])
            generalize hw : World.alloc v1 _ = v2 at hHeld HA2 ⊢
            clear hw
            refine wpAnyH_take (i := 7) (v := .agg #[.int .u8 45, .int .i64 0, .string ⟨#[]⟩, .slice (some ⟨v1.heap.size, 0, none⟩) 1 1]) rfl (by kernel_rfl) (by kernel_rfl) (by kernel_rfl) (fun _ _ _ h => h) (Or.inl ⟨by rfl, ?_⟩) (by assumption) ?_
            · intro w' hSw; go_simp
            (try simp only [Act.put, List.getElem_toArray, List.getElem_cons_zero, List.getElem_cons_succ, List.setIfInBounds_toArray, List.set_cons_zero, List.set_cons_succ])
            refine wpAnyH_ready (rs := [4, 8]) (by kernel_rfl) (by simp) (AllReadyH.cons rfl (fun K hK => ?_) (AllReadyH.cons rfl (fun K hK => ?_) AllReadyH.nil))
            · skip
              refine step_append_src _ rfl (.tmp 154) (.tmp 157) 41 rfl G.heap.size 43 n0 _ 4 56 Tryd.underlying41 hni nz0 nz1 nz2 rfl (by decide) (.slice (some ⟨v0.heap.size, 0, none⟩) 0 0) 0 [] (by simp [Act.eval]) HA2.out.own qka t.body.len qkc (rowsTo t.body.kid x t.body.len) (by simp [Act.eval]) ((HSRCB.out.below HBW.out).below HA2.out.bel) rowsTo_oneL (by unfold maxLen; omega) (by omega) HA2.out.bel.size ?_
              intro r3 v3 hown hgrow hplace
              rw [Nat.zero_add, List.nil_append] at hown
              obtain ⟨ra3, rc3, rfl⟩ := own_val hown
              have HA3 := Lib.hid (HA2.out.grow hown hgrow hplace)
              refine hK.out _ _ (mem_then HBW.out (HA3.out.bel)) (fun hHeld => ?_)
              clear hK K hown hgrow hplace
              rename_i hOld
              clear hOld
              (try simp only [Act.put, List.getElem_toArray, List.getElem_cons_zero, List.getElem_cons_succ, List.setIfInBounds_toArray, List.set_cons_zero, List.set_cons_succ])
              refine wpAnyH_ready (rs := [8]) (by kernel_rfl) (by simp) (AllReadyH.cons rfl (fun K hK => ?_) AllReadyH.nil)
              go_simp
              have HA4 := Lib.hid (HA3.out.alloc (.cells #[.int .u8 45, .int .i64 0, .string ⟨#[]⟩, .slice (some ⟨v1.heap.size, 0, none⟩) 1 1] 43))
              refine hK.out _ _ (mem_then HBW.out (HA4.out.bel)) (fun hHeld => ?_)
              clear hK K
              rename_i hOld
              clear hOld
              (try simp only [Act.put, List.getElem_toArray, List.getElem_cons_zero, List.getElem_cons_succ, List.setIfInBounds_toArray, List.set_cons_zero, List.set_cons_succ])
              generalize hw : World.alloc v3 _ = v4 at hHeld HA4 ⊢
              clear hw
              refine wpAnyH_ready (rs := [9]) (by kernel_rfl) (by simp) (AllReadyH.cons rfl (fun K hK => ?_) AllReadyH.nil)
              refine step_append_src _ rfl (.tmp 158) (.tmp 162) 41 rfl G.heap.size 43 n0 _ 4 56 Tryd.underlying41 hni nz0 nz1 nz2 rfl (by decide) (.slice ra3 t.body.len rc3) t.body.len ((rowsTo t.body.kid x t.body.len)) (by simp [Act.eval]) HA4.out.own (some ⟨v3.heap.size, 0, none⟩) 1 1 [.int .u8 45, .int .i64 0, .string ⟨#[]⟩, .slice (some ⟨v1.heap.size, 0, none⟩) 1 1] (by simp [Act.eval]) (one_src (cs := [.int .u8 45, .int .i64 0, .string ⟨#[]⟩, .slice (some ⟨v1.heap.size, 0, none⟩) 1 1]) (n := 1) (HA4.out.blk (v3.heap.size, .cells #[.int .u8 45, .int .i64 0, .string ⟨#[]⟩, .slice (some ⟨v1.heap.size, 0, none⟩) 1 1] 43) (by simp)).1 rfl) (by simp [Value.oneCell']) (by unfold maxLen; omega) (by omega) HA4.out.bel.size ?_
              intro r5 v5 hown hgrow hplace
              obtain ⟨ra5, rc5, rfl⟩ := own_val hown
              have HA5 := Lib.hid (HA4.out.grow hown hgrow hplace)
              refine hK.out _ _ (mem_then HBW.out (HA5.out.bel)) (fun hHeld => ?_)
              clear hK K hown hgrow hplace
              rename_i hOld
              clear hOld
              (try simp only [Act.put, List.getElem_toArray, List.getElem_cons_zero, List.getElem_cons_succ, List.setIfInBounds_toArray, List.set_cons_zero, List.set_cons_succ])
              refine wpAnyH_ready (rs := [10]) (by kernel_rfl) (by simp) (AllReadyH.cons rfl (fun K hK => ?_) AllReadyH.nil)
              go_simp
              refine (block_any v5 ra5 (t.body.len + 1) rc5).mono ?_
              rintro e v99 ⟨rfl, hB99⟩
              have HA99 := Lib.hid (HA5.out.keep hB99)
              clear hB99
              refine hK.out _ _ (mem_then HBW.out HA99.out.bel) (fun hHeld => ?_)
              clear hK K
              rename_i hOld
              clear hOld
              (try simp only [Act.put, List.getElem_toArray, List.getElem_cons_zero, List.getElem_cons_succ, List.setIfInBounds_toArray, List.set_cons_zero, List.set_cons_succ])
              refine wpAnyH_take (i := 11) (v := .pointer (some ⟨w10.heap.size, 4, none⟩)) rfl (by kernel_rfl) (by kernel_rfl) (by kernel_rfl) (fun _ _ _ h => h) (Or.inl ⟨by rfl, ?_⟩) (by assumption) ?_
              · intro w' hSw; go_simp
              (try simp only [Act.put, List.getElem_toArray, List.getElem_cons_zero, List.getElem_cons_succ, List.setIfInBounds_toArray, List.set_cons_zero, List.set_cons_succ])
              have q0 := mem_keep HTB2.out HA99.out.bel
              have f4 := mem_free q0 4
              have f5 := mem_free q0 5
              have f6 := mem_free q0 6
              have f7 := mem_free q0 7
              have g4 := mem_cell q0 4
              have g5 := mem_cell q0 5
              have g6 := mem_cell q0 6
              have g7 := mem_cell q0 7
              simp only [Tsk.cells, List.getElem?_toArray, List.getElem?_cons_zero, List.getElem?_cons_succ] at g4 g5 g6 g7
              obtain ⟨E9, hE9⟩ : ∃ E9 : World, (((v99.setCell ⟨w10.heap.size, 4, none⟩ (.int .u8 47)).setCell ⟨w10.heap.size, 5, none⟩ (.int .i64 0)).setCell ⟨w10.heap.size, 6, none⟩ (.string ⟨#[]⟩)).setCell ⟨w10.heap.size, 7, none⟩ (.slice ra5 (t.body.len + 1) rc5) = E9 := ⟨_, rfl⟩
              have hX9 : E9.heap[w10.heap.size]? = some (tskObj (bodyT t (endT t (outT n.name))) ⟨qva, qvc, qaa, qac, ra5, rc5⟩) := by rw [← hE9, mem_set (mem_set (mem_set (mem_set q0)))]; rfl
              have hoth : ∀ k, k ≠ w10.heap.size → E9.heap[k]? = v99.heap[k]? := fun k hk => by rw [← hE9, Below.heap_setCell _ _ _ _ hk, Below.heap_setCell _ _ _ _ hk, Below.heap_setCell _ _ _ _ hk, Below.heap_setCell _ _ _ _ hk]
              have HB9 : Hid (Below w10.heap.size w10 E9) := by show Below _ _ _; rw [← hE9]; exact ((((mem_then HBW.out HA99.out.bel).setCell (p := ⟨w10.heap.size, 4, none⟩) (Nat.le_refl _) _).setCell (p := ⟨w10.heap.size, 5, none⟩) (Nat.le_refl _) _).setCell (p := ⟨w10.heap.size, 6, none⟩) (Nat.le_refl _) _).setCell (p := ⟨w10.heap.size, 7, none⟩) (Nat.le_refl _) _
              have HR9 : Hid (Rep E9 (endT t (outT n.name)) ra5) := by
                have hlG := HLG.out
                refine end_rep (own_keep HA99.out.own (fun k hk _ => hoth k (by have := (own_lt HA99.out.own hk).1; omega))) (fun j hj => ((HKIDS.out j hj).below HB9.out)) ?_ (by omega)
                have hb6 := HA99.out.blk (v1.heap.size, .cells #[.int .u8 2, .int .i64 0, .string n.name, .slice none 0 0] 43) (by simp)
                exact outT_rep ((hoth _ (by have := HA1.out.bel.size; omega)).trans hb6.1) HFN.out.name
              have HX9 := Lib.hid hX9
              clear q0 hX9 hoth
              refine wpAnyH_ready (rs := [12]) (by kernel_rfl) (by simp) (AllReadyH.cons rfl (fun K hK => ?_) AllReadyH.nil)
              go_simp
              try rw [hE9]
              clear hE9 f4 f5 f6 f7 g4 g5 g6 g7
              refine hK.out _ _ (HB9.out) (fun hHeld => ?_)
              clear hK K
              rename_i hOld
              clear hOld
              (try simp only [Act.put, List.getElem_toArray, List.getElem_cons_zero, List.getElem_cons_succ, List.setIfInBounds_toArray, List.set_cons_zero, List.set_cons_succ])
              refine wpAnyH_done (by kernel_rfl) ?_ _
              exact ⟨[_, _, _, _, _, _, _, _, _, _, _, _], rfl, (by simp only [putAll, List.setIfInBounds_toArray, List.set_cons_zero, List.set_cons_succ]; rfl), ra5, rc5, HX9.out, HR9.out, HB9.out⟩
            · skip
              go_simp
              have HA3 := Lib.hid (HA2.out.alloc (.cells #[.int .u8 45, .int .i64 0, .string ⟨#[]⟩, .slice (some ⟨v1.heap.size, 0, none⟩) 1 1] 43))
              refine hK.out _ _ (mem_then HBW.out (HA3.out.bel)) (fun hHeld => ?_)
              clear hK K
              rename_i hOld
              clear hOld
              (try simp only [Act.put, List.getElem_toArray, List.getElem_cons_zero, List.getElem_cons_succ, List.setIfInBounds_toArray, List.set_cons_zero, List.set_cons_succ])
              generalize hw : World.alloc v2 _ = v3 at hHeld HA3 ⊢
              clear hw
              refine wpAnyH_ready (rs := [4]) (by kernel_rfl) (by simp) (AllReadyH.cons rfl (fun K hK => ?_) AllReadyH.nil)
              refine step_append_src _ rfl (.tmp 154) (.tmp 157) 41 rfl G.heap.size 43 n0 _ 4 56 Tryd.underlying41 hni nz0 nz1 nz2 rfl (by decide) (.slice (some ⟨v0.heap.size, 0, none⟩) 0 0) 0 [] (by simp [Act.eval]) HA3.out.own qka t.body.len qkc (rowsTo t.body.kid x t.body.len) (by simp [Act.eval]) ((HSRCB.out.below HBW.out).below HA3.out.bel) rowsTo_oneL (by unfold maxLen; omega) (by omega) HA3.out.bel.size ?_
              intro r4 v4 hown hgrow hplace
              rw [Nat.zero_add, List.nil_append] at hown
              obtain ⟨ra4, rc4, rfl⟩ := own_val hown
              have HA4 := Lib.hid (HA3.out.grow hown hgrow hplace)
              refine hK.out _ _ (mem_then HBW.out (HA4.out.bel)) (fun hHeld => ?_)
              clear hK K hown hgrow hplace
              rename_i hOld
              clear hOld
              (try simp only [Act.put, List.getElem_toArray, List.getElem_cons_zero, List.getElem_cons_succ, List.setIfInBounds_toArray, List.set_cons_zero, List.set_cons_succ])
              refine wpAnyH_ready (rs := [9]) (by kernel_rfl) (by simp) (AllReadyH.cons rfl (fun K hK => ?_) AllReadyH.nil)
              refine step_append_src _ rfl (.tmp 158) (.tmp 162) 41 rfl G.heap.size 43 n0 _ 4 56 Tryd.underlying41 hni nz0 nz1 nz2 rfl (by decide) (.slice ra4 t.body.len rc4) t.body.len ((rowsTo t.body.kid x t.body.len)) (by simp [Act.eval]) HA4.out.own (some ⟨v2.heap.size, 0, none⟩) 1 1 [.int .u8 45, .int .i64 0, .string ⟨#[]⟩, .slice (some ⟨v1.heap.size, 0, none⟩) 1 1] (by simp [Act.eval]) (one_src (cs := [.int .u8 45, .int .i64 0, .string ⟨#[]⟩, .slice (some ⟨v1.heap.size, 0, none⟩) 1 1]) (n := 1) (HA4.out.blk (v2.heap.size, .cells #[.int .u8 45, .int .i64 0, .string ⟨#[]⟩, .slice (some ⟨v1.heap.size, 0, none⟩) 1 1] 43) (by simp)).1 rfl) (by simp [Value.oneCell']) (by unfold maxLen; omega) (by omega) HA4.out.bel.size ?_
              intro r5 v5 hown hgrow hplace
              obtain ⟨ra5, rc5, rfl⟩ := own_val hown
              have HA5 := Lib.hid (HA4.out.grow hown hgrow hplace)
              refine hK.out _ _ (mem_then HBW.out (HA5.out.bel)) (fun hHeld => ?_)
              clear hK K hown hgrow hplace
              rename_i hOld
              clear hOld
              (try simp only [Act.put, List.getElem_toArray, List.getElem_cons_zero, List.getElem_cons_succ, List.setIfInBounds_toArray, List.set_cons_zero, List.set_cons_succ])
              refine wpAnyH_ready (rs := [10]) (by kernel_rfl) (by simp) (AllReadyH.cons rfl (fun K hK => ?_) AllReadyH.nil)
              go_simp
              refine (block_any v5 ra5 (t.body.len + 1) rc5).mono ?_
              rintro e v99 ⟨rfl, hB99⟩
              have HA99 := Lib.hid (HA5.out.keep hB99)
              clear hB99
              refine hK.out _ _ (mem_then HBW.out HA99.out.bel) (fun hHeld => ?_)
              clear hK K
              rename_i hOld
              clear hOld
              (try simp only [Act.put, List.getElem_toArray, List.getElem_cons_zero, List.getElem_cons_succ, List.setIfInBounds_toArray, List.set_cons_zero, List.set_cons_succ])
              refine wpAnyH_take (i := 11) (v := .pointer (some ⟨w10.heap.size, 4, none⟩)) rfl (by kernel_rfl) (by kernel_rfl) (by kernel_rfl) (fun _ _ _ h => h) (Or.inl ⟨by rfl, ?_⟩) (by assumption) ?_
              · intro w' hSw; go_simp
              (try simp only [Act.put, List.getElem_toArray, List.getElem_cons_zero, List.getElem_cons_succ, List.setIfInBounds_toArray, List.set_cons_zero, List.set_cons_succ])
              have q0 := mem_keep HTB2.out HA99.out.bel
              have f4 := mem_free q0 4
              have f5 := mem_free q0 5
              have f6 := mem_free q0 6
              have f7 := mem_free q0 7
              have g4 := mem_cell q0 4
              have g5 := mem_cell q0 5
              have g6 := mem_cell q0 6
              have g7 := mem_cell q0 7
              simp only [Tsk.cells, List.getElem?_toArray, List.getElem?_cons_zero, List.getElem?_cons_succ] at g4 g5 g6 g7
              obtain ⟨E9, hE9⟩ : ∃ E9 : World, (((v99.setCell ⟨w10.heap.size, 4, none⟩ (.int .u8 47)).setCell ⟨w10.heap.size, 5, none⟩ (.int .i64 0)).setCell ⟨w10.heap.size, 6, none⟩ (.string ⟨#[]⟩)).setCell ⟨w10.heap.size, 7, none⟩ (.slice ra5 (t.body.len + 1) rc5) = E9 := ⟨_, rfl⟩
              have hX9 : E9.heap[w10.heap.size]? = some (tskObj (bodyT t (endT t (outT n.name))) ⟨qva, qvc, qaa, qac, ra5, rc5⟩) := by rw [← hE9, mem_set (mem_set (mem_set (mem_set q0)))]; rfl
              have hoth : ∀ k, k ≠ w10.heap.size → E9.heap[k]? = v99.heap[k]? := fun k hk => by rw [← hE9, Below.heap_setCell _ _ _ _ hk, Below.heap_setCell _ _ _ _ hk, Below.heap_setCell _ _ _ _ hk, Below.heap_setCell _ _ _ _ hk]
              have HB9 : Hid (Below w10.heap.size w10 E9) := by show Below _ _ _; rw [← hE9]; exact ((((mem_then HBW.out HA99.out.bel).setCell (p := ⟨w10.heap.size, 4, none⟩) (Nat.le_refl _) _).setCell (p := ⟨w10.heap.size, 5, none⟩) (Nat.le_refl _) _).setCell (p := ⟨w10.heap.size, 6, none⟩) (Nat.le_refl _) _).setCell (p := ⟨w10.heap.size, 7, none⟩) (Nat.le_refl _) _
              have HR9 : Hid (Rep E9 (endT t (outT n.name)) ra5) := by
                have hlG := HLG.out
                refine end_rep (own_keep HA99.out.own (fun k hk _ => hoth k (by have := (own_lt HA99.out.own hk).1; omega))) (fun j hj => ((HKIDS.out j hj).below HB9.out)) ?_ (by omega)
                have hb6 := HA99.out.blk (v1.heap.size, .cells #[.int .u8 2, .int .i64 0, .string n.name, .slice none 0 0] 43) (by simp)
                exact outT_rep ((hoth _ (by have := HA1.out.bel.size; omega)).trans hb6.1) HFN.out.name
              have HX9 := Lib.hid hX9
              clear q0 hX9 hoth
              refine wpAnyH_ready (rs := [12]) (by kernel_rfl) (by simp) (AllReadyH.cons rfl (fun K hK => ?_) AllReadyH.nil)
              go_simp
              try rw [hE9]
              clear hE9 f4 f5 f6 f7 g4 g5 g6 g7
              refine hK.out _ _ (HB9.out) (fun hHeld => ?_)
              clear hK K
              rename_i hOld
              clear hOld
              (try simp only [Act.put, List.getElem_toArray, List.getElem_cons_zero, List.getElem_cons_succ, List.setIfInBounds_toArray, List.set_cons_zero, List.set_cons_succ])
              refine wpAnyH_done (by kernel_rfl) ?_ _
              exact ⟨[_, _, _, _, _, _, _, _, _, _, _, _], rfl, (by simp only [putAll, List.setIfInBounds_toArray, List.set_cons_zero, List.set_cons_succ]; rfl), ra5, rc5, HX9.out, HR9.out, HB9.out⟩
        · skip
          go_simp
          have HA1 := Lib.hid (HA0.out.alloc (.cells #[.int .u8 2, .int .i64 0, .string n.name, .slice none 0 0] 43))
          refine hK.out _ _ (mem_then HBW.out (HA1.out.bel)) (fun hHeld => ?_)
          clear hK K
          rename_i hOld
          clear hOld
          (try simp only [Act.put, List.getElem_toArray, List.getElem_cons_zero, List.getElem_cons_succ, List.setIfInBounds_toArray, List.set_cons_zero, List.set_cons_succ])
          generalize hw : World.alloc v0 _ = v1 at hHeld HA1 ⊢
          clear hw
          refine wpAnyH_take (i := 7) (v := .agg #[.int .u8 45, .int .i64 0, .string ⟨#[]⟩, .slice (some ⟨v0.heap.size, 0, none⟩) 1 1]) rfl (by kernel_rfl) (by kernel_rfl) (by kernel_rfl) (fun _ _ _ h => h) (Or.inl ⟨by rfl, ?_⟩) (by assumption) ?_
          · intro w' hSw; go_simp
          (try simp only [Act.put, List.getElem_toArray, List.getElem_cons_zero, List.getElem_cons_succ, List.setIfInBounds_toArray, List.set_cons_zero, List.set_cons_succ])
          refine wpAnyH_ready (rs := [0, 8]) (by kernel_rfl) (by simp) (AllReadyH.cons rfl (fun K hK => ?_) (AllReadyH.cons rfl (fun K hK => ?_) AllReadyH.nil))
          · skip
            go_simp
            have HA2 := Lib.hid HA1.out.start
            refine hK.out _ _ (mem_then HBW.out (HA2.out.bel)) (fun hHeld => ?_)
            clear hK K
            rename_i hOld
            clear hOld
            (try simp only [Act.put, List.getElem_toArray, List.getElem_cons_zero, List.getElem_cons_succ, List.setIfInBounds_toArray, List.set_cons_zero, List.set_cons_succ])
            generalize hw : World.alloc v1 _ = v2 at hHeld HA2 ⊢
            clear hw
            refine wpAnyH_ready (rs := [4, 8]) (by kernel_rfl) (by simp) (AllReadyH.cons rfl (fun K hK => ?_) (AllReadyH.cons rfl (fun K hK => ?_) AllReadyH.nil))
            · skip
              refine step_append_src _ rfl (.tmp 154) (.tmp 157) 41 rfl G.heap.size 43 n0 _ 4 56 Tryd.underlying41 hni nz0 nz1 nz2 rfl (by decide) (.slice (some ⟨v1.heap.size, 0, none⟩) 0 0) 0 [] (by simp [Act.eval]) HA2.out.own qka t.body.len qkc (rowsTo t.body.kid x t.body.len) (by simp [Act.eval]) ((HSRCB.out.below HBW.out).below HA2.out.bel) rowsTo_oneL (by unfold maxLen; omega) (by omega) HA2.out.bel.size ?_
              intro r3 v3 hown hgrow hplace
              rw [Nat.zero_add, List.nil_append] at hown
              obtain ⟨ra3, rc3, rfl⟩ := own_val hown
              have HA3 := Lib.hid (HA2.out.grow hown hgrow hplace)
              refine hK.out _ _ (mem_then HBW.out (HA3.out.bel)) (fun hHeld => ?_)
              clear hK K hown hgrow hplace
              rename_i hOld
              clear hOld
              (try simp only [Act.put, List.getElem_toArray, List.getElem_cons_zero, List.getElem_cons_succ, List.setIfInBounds_toArray, List.set_cons_zero, List.set_cons_succ])
              refine wpAnyH_ready (rs := [8]) (by kernel_rfl) (by simp) (AllReadyH.cons rfl (fun K hK => ?_) AllReadyH.nil)
              go_simp
              have HA4 := Lib.hid (HA3.out.alloc (.cells #[.int .u8 45, .int .i64 0, .string ⟨#[]⟩, .slice (some ⟨v0.heap.size, 0, none⟩) 1 1] 43))
              refine hK.out _ _ (mem_then HBW.out (HA4.out.bel)) (fun hHeld => ?_)
              clear hK K
              rename_i hOld
              clear hOld
              (try simp only [Act.put, List.getElem_toArray, List.getElem_cons_zero, List.getElem_cons_succ, List.setIfInBounds_toArray, List.set_cons_zero, List.set_cons_succ])
              generalize hw : World.alloc v3 _ = v4 at hHeld HA4 ⊢
              clear hw
              refine wpAnyH_ready (rs := [9]) (by kernel_rfl) (by simp) (AllReadyH.cons rfl (fun K hK => ?_) AllReadyH.nil)
              refine step_append_src _ rfl (.tmp 158) (.tmp 162) 41 rfl G.heap.size 43 n0 _ 4 56 Tryd.underlying41 hni nz0 nz1 nz2 rfl (by decide) (.slice ra3 t.body.len rc3) t.body.len ((rowsTo t.body.kid x t.body.len)) (by simp [Act.eval]) HA4.out.own (some ⟨v3.heap.size, 0, none⟩) 1 1 [.int .u8 45, .int .i64 0, .string ⟨#[]⟩, .slice (some ⟨v0.heap.size, 0, none⟩) 1 1] (by simp [Act.eval]) (one_src (cs := [.int .u8 45, .int .i64 0, .string ⟨#[]⟩, .slice (some ⟨v0.heap.size, 0, none⟩) 1 1]) (n := 1) (HA4.out.blk (v3.heap.size, .cells #[.int .u8 45, .int .i64 0, .string ⟨#[]⟩, .slice (some ⟨v0.heap.size, 0, none⟩) 1 1] 43) (by simp)).1 rfl) (by simp [Value.oneCell']) (by unfold maxLen; omega) (by omega) HA4.out.bel.size ?_
              intro r5 v5 hown hgrow hplace
              obtain ⟨ra5, rc5, rfl⟩ := own_val hown
              have HA5 := Lib.hid (HA4.out.grow hown hgrow hplace)
              refine hK.out _ _ (mem_then HBW.out (HA5.out.bel)) (fun hHeld => ?_)
              clear hK K hown hgrow hplace
              rename_i hOld
              clear hOld
              (try simp only [Act.put, List.getElem_toArray, List.getElem_cons_zero, List.getElem_cons_succ, List.setIfInBounds_toArray, List.set_cons_zero, List.set_cons_succ])
              refine wpAnyH_ready (rs := [10]) (by kernel_rfl) (by simp) (AllReadyH.cons rfl (fun K hK => ?_) AllReadyH.nil)
              go_simp
              refine (block_any v5 ra5 (t.body.len + 1) rc5).mono ?_
              rintro e v99 ⟨rfl, hB99⟩
              have HA99 := Lib.hid (HA5.out.keep hB99)
              clear hB99
              refine hK.out _ _ (mem_then HBW.out HA99.out.bel) (fun hHeld => ?_)
              clear hK K
              rename_i hOld
              clear hOld
              (try simp only [Act.put, List.getElem_toArray, List.getElem_cons_zero, List.getElem_cons_succ, List.setIfInBounds_toArray, List.set_cons_zero, List.set_cons_succ])
              refine wpAnyH_take (i := 11) (v := .pointer (some ⟨w10.heap.size, 4, none⟩)) rfl (by kernel_rfl) (by kernel_rfl) (by kernel_rfl) (fun _ _ _ h => h) (Or.inl ⟨by rfl, ?_⟩) (by assumption) ?_
              · intro w' hSw; go_simp
              (try simp only [Act.put, List.getElem_toArray, List.getElem_cons_zero, List.getElem_cons_succ, List.setIfInBounds_toArray, List.set_cons_zero, List.set_cons_succ])
              have q0 := mem_keep HTB2.out HA99.out.bel
              have f4 := mem_free q0 4
              have f5 := mem_free q0 5
              have f6 := mem_free q0 6
              have f7 := mem_free q0 7
              have g4 := mem_cell q0 4
              have g5 := mem_cell q0 5
              have g6 := mem_cell q0 6
              have g7 := mem_cell q0 7
              simp only [Tsk.cells, List.getElem?_toArray, List.getElem?_cons_zero, List.getElem?_cons_succ] at g4 g5 g6 g7
              obtain ⟨E9, hE9⟩ : ∃ E9 : World, (((v99.setCell ⟨w10.heap.size, 4, none⟩ (.int .u8 47)).setCell ⟨w10.heap.size, 5, none⟩ (.int .i64 0)).setCell ⟨w10.heap.size, 6, none⟩ (.string ⟨#[]⟩)).setCell ⟨w10.heap.size, 7, none⟩ (.slice ra5 (t.body.len + 1) rc5) = E9 := ⟨_, rfl⟩
              have hX9 : E9.heap[w10.heap.size]? = some (tskObj (bodyT t (endT t (outT n.name))) ⟨qva, qvc, qaa, qac, ra5, rc5⟩) := by rw [← hE9, mem_set (mem_set (mem_set (mem_set q0)))]; rfl
              have hoth : ∀ k, k ≠ w10.heap.size → E9.heap[k]? = v99.heap[k]? := fun k hk => by rw [← hE9, Below.heap_setCell _ _ _ _ hk, Below.heap_setCell _ _ _ _ hk, Below.heap_setCell _ _ _ _ hk, Below.heap_setCell _ _ _ _ hk]
              have HB9 : Hid (Below w10.heap.size w10 E9) := by show Below _ _ _; rw [← hE9]; exact ((((mem_then HBW.out HA99.out.bel).setCell (p := ⟨w10.heap.size, 4, none⟩) (Nat.le_refl _) _).setCell (p := ⟨w10.heap.size, 5, none⟩) (Nat.le_refl _) _).setCell (p := ⟨w10.heap.size, 6, none⟩) (Nat.le_refl _) _).setCell (p := ⟨w10.heap.size, 7, none⟩) (Nat.le_refl _) _
              have HR9 : Hid (Rep E9 (endT t (outT n.name)) ra5) := by
                have hlG := HLG.out
                refine end_rep (own_keep HA99.out.own (fun k hk _ => hoth k (by have := (own_lt HA99.out.own hk).1; omega))) (fun j hj => ((HKIDS.out j hj).below HB9.out)) ?_ (by omega)
                have hb6 := HA99.out.blk (v0.heap.size, .cells #[.int .u8 2, .int .i64 0, .string n.name, .slice none 0 0] 43) (by simp)
                exact outT_rep ((hoth _ (by have := HA0.out.bel.size; omega)).trans hb6.1) HFN.out.name
              have HX9 := Lib.hid hX9
              clear q0 hX9 hoth
              refine wpAnyH_ready (rs := [12]) (by kernel_rfl) (by simp) (AllReadyH.cons rfl (fun K hK => ?_) AllReadyH.nil)
              go_simp
              try rw [hE9]
              clear hE9 f4 f5 f6 f7 g4 g5 g6 g7
              refine hK.out _ _ (HB9.out) (fun hHeld => ?_)
              clear hK K
              rename_i hOld
              clear hOld
              (try simp only [Act.put, List.getElem_toArray, List.getElem_cons_zero, List.getElem_cons_succ, List.setIfInBounds_toArray, List.set_cons_zero, List.set_cons_succ])
              refine wpAnyH_done (by kernel_rfl) ?_ _
              exact ⟨[_, _, _, _, _, _, _, _, _, _, _, _], rfl, (by simp only [putAll, List.setIfInBounds_toArray, List.set_cons_zero, List.set_cons_succ]; rfl), ra5, rc5, HX9.out, HR9.out, HB9.out⟩
            · skip
              go_simp
              have HA3 := Lib.hid (HA2.out.alloc (.cells #[.int .u8 45, .int .i64 0, .string ⟨#[]⟩, .slice (some ⟨v0.heap.size, 0, none⟩) 1 1] 43))
              refine hK.out _ _ (mem_then HBW.out (HA3.out.bel)) (fun hHeld => ?_)
              clear hK K
              rename_i hOld
              clear hOld
              (try simp only [Act.put, List.getElem_toArray, List.getElem_cons_zero, List.getElem_cons_succ, List.setIfInBounds_toArray, List.set_cons_zero, List.set_cons_succ])
              generalize hw : World.alloc v2 _ = v3 at hHeld HA3 ⊢
              clear hw
              refine wpAnyH_ready (rs := [4]) (by kernel_rfl) (by simp) (AllReadyH.cons rfl (fun K hK => ?_) AllReadyH.nil)
              refine step_append_src _ rfl (.tmp 154) (.tmp 157) 41 rfl G.heap.size 43 n0 _ 4 56 Tryd.underlying41 hni nz0 nz1 nz2 rfl (by decide) (.slice (some ⟨v1.heap.size, 0, none⟩) 0 0) 0 [] (by simp [Act.eval]) HA3.out.own qka t.body.len qkc (rowsTo t.body.kid x t.body.len) (by simp [Act.eval]) ((HSRCB.out.below HBW.out).below HA3.out.bel) rowsTo_oneL (by unfold maxLen; omega) (by omega) HA3.out.bel.size ?_
              intro r4 v4 hown hgrow hplace
              rw [Nat.zero_add, List.nil_append] at hown
              obtain ⟨ra4, rc4, rfl⟩ := own_val hown
              have HA4 := Lib.hid (HA3.out.grow hown hgrow hplace)
              refine hK.out _ _ (mem_then HBW.out (HA4.out.bel)) (fun hHeld => ?_)
              clear hK K hown hgrow hplace
              rename_i hOld
              clear hOld
              (try simp only [Act.put, List.getElem_toArray, List.getElem_cons_zero, List.getElem_cons_succ, List.setIfInBounds_toArray, List.set_cons_zero, List.set_cons_succ])
              refine wpAnyH_ready (rs := [9]) (by kernel_rfl) (by simp) (AllReadyH.cons rfl (fun K hK => ?_) AllReadyH.nil)
              refine step_append_src _ rfl (.tmp 158) (.tmp 162) 41 rfl G.heap.size 43 n0 _ 4 56 Tryd.underlying41 hni nz0 nz1 nz2 rfl (by decide) (.slice ra4 t.body.len rc4) t.body.len ((rowsTo t.body.kid x t.body.len)) (by simp [Act.eval]) HA4.out.own (some ⟨v2.heap.size, 0, none⟩) 1 1 [.int .u8 45, .int .i64 0, .string ⟨#[]⟩, .slice (some ⟨v0.heap.size, 0, none⟩) 1 1] (by simp [Act.eval]) (one_src (cs := [.int .u8 45, .int .i64 0, .string ⟨#[]⟩, .slice (some ⟨v0.heap.size, 0, none⟩) 1 1]) (n := 1) (HA4.out.blk (v2.heap.size, .cells #[.int .u8 45, .int .i64 0, .string ⟨#[]⟩, .slice (some ⟨v0.heap.size, 0, none⟩) 1 1] 43) (by simp)).1 rfl) (by simp [Value.oneCell']) (by unfold maxLen; omega) (by omega) HA4.out.bel.size ?_
              intro r5 v5 hown hgrow hplace
              obtain ⟨ra5, rc5, rfl⟩ := own_val hown
              have HA5 := Lib.hid (HA4.out.grow hown hgrow hplace)
              refine hK.out _ _ (mem_then HBW.out (HA5.out.bel)) (fun hHeld => ?_)
              clear hK K hown hgrow hplace
              rename_i hOld
              clear hOld
              (try simp only [Act.put, List.getElem_toArray, List.getElem_cons_zero, List.getElem_cons_succ, List.setIfInBounds_toArray, List.set_cons_zero, List.set_cons_succ])
              refine wpAnyH_ready (rs := [10]) (by kernel_rfl) (by simp) (AllReadyH.cons rfl (fun K hK => ?_) AllReadyH.nil)
              go_simp
              refine (block_any v5 ra5 (t.body.len + 1) rc5).mono ?_
              rintro e v99 ⟨rfl, hB99⟩
              have HA99 := Lib.hid (HA5.out.keep hB99)
              clear hB99
              refine hK.out _ _ (mem_then HBW.out HA99.out.bel) (fun hHeld => ?_)
              clear hK K
              rename_i hOld
              clear hOld
              (try simp only [Act.put, List.getElem_toArray, List.getElem_cons_zero, List.getElem_cons_succ, List.setIfInBounds_toArray, List.set_cons_zero, List.set_cons_succ])
              refine wpAnyH_take (i := 11) (v := .pointer (some ⟨w10.heap.size, 4, none⟩)) rfl (by kernel_rfl) (by kernel_rfl) (by kernel_rfl) (fun _ _ _ h => h) (Or.inl ⟨by rfl, ?_⟩) (by assumption) ?_
              · intro w' hSw; go_simp
              (try simp only [Act.put, List.getElem_toArray, List.getElem_cons_zero, List.getElem_cons_succ, List.setIfInBounds_toArray, List.set_cons_zero, List.set_cons_succ])
              have q0 := mem_keep HTB2.out HA99.out.bel
              have f4 := mem_free q0 4
              have f5 := mem_free q0 5
              have f6 := mem_free q0 6
              have f7 := mem_free q0 7
              have g4 := mem_cell q0 4
              have g5 := mem_cell q0 5
              have g6 := mem_cell q0 6
              have g7 := mem_cell q0 7
              simp only [Tsk.cells, List.getElem?_toArray, List.getElem?_cons_zero, List.getElem?_cons_succ] at g4 g5 g6 g7
              obtain ⟨E9, hE9⟩ : ∃ E9 : World, (((v99.setCell ⟨w10.heap.size, 4, none⟩ (.int .u8 47)).setCell ⟨w10.heap.size, 5, none⟩ (.int .i64 0)).setCell ⟨w10.heap.size, 6, none⟩ (.string ⟨#[]⟩)).setCell ⟨w10.heap.size, 7, none⟩ (.slice ra5 (t.body.len + 1) rc5) = E9 := ⟨_, rfl⟩
              have hX9 : E9.heap[w10.heap.size]? = some (tskObj (bodyT t (endT t (outT n.name))) ⟨qva, qvc, qaa, qac, ra5, rc5⟩) := by rw [← hE9, mem_set (mem_set (mem_set (mem_set q0)))]; rfl
              have hoth : ∀ k, k ≠ w10.heap.size → E9.heap[k]? = v99.heap[k]? := fun k hk => by rw [← hE9, Below.heap_setCell _ _ _ _ hk, Below.heap_setCell _ _ _ _ hk, Below.heap_setCell _ _ _ _ hk, Below.heap_setCell _ _ _ _ hk]
              have HB9 : Hid (Below w10.heap.size w10 E9) := by show Below _ _ _; rw [← hE9]; exact ((((mem_then HBW.out HA99.out.bel).setCell (p := ⟨w10.heap.size, 4, none⟩) (Nat.le_refl _) _).setCell (p := ⟨w10.heap.size, 5, none⟩) (Nat.le_refl _) _).setCell (p := ⟨w10.heap.size, 6, none⟩) (Nat.le_refl _) _).setCell (p := ⟨w10.heap.size, 7, none⟩) (Nat.le_refl _) _
              have HR9 : Hid (Rep E9 (endT t (outT n.name)) ra5) := by
                have hlG := HLG.out
                refine end_rep (own_keep HA99.out.own (fun k hk _ => hoth k (by have := (own_lt HA99.out.own hk).1; omega))) (fun j hj => ((HKIDS.out j hj).below HB9.out)) ?_ (by omega)
                have hb6 := HA99.out.blk (v0.heap.size, .cells #[.int .u8 2, .int .i64 0, .string n.name, .slice none 0 0] 43) (by simp)
                exact outT_rep ((hoth _ (by have := HA0.out.bel.size; omega)).trans hb6.1) HFN.out.name
              have HX9 := Lib.hid hX9
              clear q0 hX9 hoth
              refine wpAnyH_ready (rs := [12]) (by kernel_rfl) (by simp) (AllReadyH.cons rfl (fun K hK => ?_) AllReadyH.nil)
              go_simp
              try rw [hE9]
              clear hE9 f4 f5 f6 f7 g4 g5 g6 g7
              refine hK.out _ _ (HB9.out) (fun hHeld => ?_)
              clear hK K
              rename_i hOld
              clear hOld
              (try simp only [Act.put, List.getElem_toArray, List.getElem_cons_zero, List.getElem_cons_succ, List.setIfInBounds_toArray, List.set_cons_zero, List.set_cons_succ])
              refine wpAnyH_done (by kernel_rfl) ?_ _
              exact ⟨[_, _, _, _, _, _, _, _, _, _, _, _], rfl, (by simp only [putAll, List.setIfInBounds_toArray, List.set_cons_zero, List.set_cons_succ]; rfl), ra5, rc5, HX9.out, HR9.out, HB9.out⟩
          · skip
            go_simp
            have HA2 := Lib.hid (HA1.out.alloc (.cells #[.int .u8 45, .int .i64 0, .string ⟨#[]⟩, .slice (some ⟨v0.heap.size, 0, none⟩) 1 1] 43))
            refine hK.out _ _ (mem_then HBW.out (HA2.out.bel)) (fun hHeld => ?_)
            clear hK K
            rename_i hOld
            clear hOld
            (try simp only [Act.put, List.getElem_toArray, List.getElem_cons_zero, List.getElem_cons_succ, List.setIfInBounds_toArray, List.set_cons_zero, List.set_cons_succ])
            generalize hw : World.alloc v1 _ = v2 at hHeld HA2 ⊢
            clear hw
            refine wpAnyH_ready (rs := [0]) (by kernel_rfl) (by simp) (AllReadyH.cons rfl (fun K hK => ?_) AllReadyH.nil)
            go_simp
            have HA3 := Lib.hid HA2.out.start
            refine hK.out _ _ (mem_then HBW.out (HA3.out.bel)) (fun hHeld => ?_)
            clear hK K
            rename_i hOld
            clear hOld
            (try simp only [Act.put, List.getElem_toArray, List.getElem_cons_zero, List.getElem_cons_succ, List.setIfInBounds_toArray, List.set_cons_zero, List.set_cons_succ])
            generalize hw : World.alloc v2 _ = v3 at hHeld HA3 ⊢
            clear hw
            refine wpAnyH_ready (rs := [4]) (by kernel_rfl) (by simp) (AllReadyH.cons rfl (fun K hK => ?_) AllReadyH.nil)
            refine step_append_src _ rfl (.tmp 154) (.tmp 157) 41 rfl G.heap.size 43 n0 _ 4 56 Tryd.underlying41 hni nz0 nz1 nz2 rfl (by decide) (.slice (some ⟨v2.heap.size, 0, none⟩) 0 0) 0 [] (by simp [Act.eval]) HA3.out.own qka t.body.len qkc (rowsTo t.body.kid x t.body.len) (by simp [Act.eval]) ((HSRCB.out.below HBW.out).below HA3.out.bel) rowsTo_oneL (by unfold maxLen; omega) (by omega) HA3.out.bel.size ?_
            intro r4 v4 hown hgrow hplace
            rw [Nat.zero_add, List.nil_append] at hown
            obtain ⟨ra4, rc4, rfl⟩ := own_val hown
            have HA4 := Lib.hid (HA3.out.grow hown hgrow hplace)
            refine hK.out _ _ (mem_then HBW.out (HA4.out.bel)) (fun hHeld => ?_)
            clear hK K hown hgrow hplace
            rename_i hOld
            clear hOld
            (try simp only [Act.put, List.getElem_toArray, List.getElem_cons_zero, List.getElem_cons_succ, List.setIfInBounds_toArray, List.set_cons_zero, List.set_cons_succ])
            refine wpAnyH_ready (rs := [9]) (by kernel_rfl) (by simp) (AllReadyH.cons rfl (fun K hK => ?_) AllReadyH.nil)
            refine step_append_src _ rfl (.tmp 158) (.tmp 162) 41 rfl G.heap.size 43 n0 _ 4 56 Tryd.underlying41 hni nz0 nz1 nz2 rfl (by decide) (.slice ra4 t.body.len rc4) t.body.len ((rowsTo t.body.kid x t.body.len)) (by simp [Act.eval]) HA4.out.own (some ⟨v1.heap.size, 0, none⟩) 1 1 [.int .u8 45, .int .i64 0, .string ⟨#[]⟩, .slice (some ⟨v0.heap.size, 0, none⟩) 1 1] (by simp [Act.eval]) (one_src (cs := [.int .u8 45, .int .i64 0, .string ⟨#[]⟩, .slice (some ⟨v0.heap.size, 0, none⟩) 1 1]) (n := 1) (HA4.out.blk (v1.heap.size, .cells #[.int .u8 45, .int .i64 0, .string ⟨#[]⟩, .slice (some ⟨v0.heap.size, 0, none⟩) 1 1] 43) (by simp)).1 rfl) (by simp [Value.oneCell']) (by unfold maxLen; omega) (by omega) HA4.out.bel.size ?_
            intro r5 v5 hown hgrow hplace
            obtain ⟨ra5, rc5, rfl⟩ := own_val hown
            have HA5 := Lib.hid (HA4.out.grow hown hgrow hplace)
            refine hK.out _ _ (mem_then HBW.out (HA5.out.bel)) (fun hHeld => ?_)
            clear hK K hown hgrow hplace
            rename_i hOld
            clear hOld
            (try simp only [Act.put, List.getElem_toArray, List.getElem_cons_zero, List.getElem_cons_succ, List.setIfInBounds_toArray, List.set_cons_zero, List.set_cons_succ])
            refine wpAnyH_ready (rs := [10]) (by kernel_rfl) (by simp) (AllReadyH.cons rfl (fun K hK => ?_) AllReadyH.nil)
            go_simp
            refine (block_any v5 ra5 (t.body.len + 1) rc5).mono ?_
            rintro e v99 ⟨rfl, hB99⟩
            have HA99 := Lib.hid (HA5.out.keep hB99)
            clear hB99
            refine hK.out _ _ (mem_then HBW.out HA99.out.bel) (fun hHeld => ?_)
            clear hK K
            rename_i hOld
            clear hOld
            (try simp only [Act.put, List.getElem_toArray, List.getElem_cons_zero, List.getElem_cons_succ, List.setIfInBounds_toArray, List.set_cons_zero, List.set_cons_succ])
            refine wpAnyH_take (i := 11) (v := .pointer (some ⟨w10.heap.size, 4, none⟩)) rfl (by kernel_rfl) (by kernel_rfl) (by kernel_rfl) (fun _ _ _ h => h) (Or.inl ⟨by rfl, ?_⟩) (by assumption) ?_
            · intro w' hSw; go_simp
            (try simp only [Act.put, List.getElem_toArray, List.getElem_cons_zero, List.getElem_cons_succ, List.setIfInBounds_toArray, List.set_cons_zero, List.set_cons_succ])
            have q0 := mem_keep HTB2.out HA99.out.bel
            have f4 := mem_free q0 4
            have f5 := mem_free q0 5
            have f6 := mem_free q0 6
            have f7 := mem_free q0 7
            have g4 := mem_cell q0 4
            have g5 := mem_cell q0 5
            have g6 := mem_cell q0 6
            have g7 := mem_cell q0 7
            simp only [Tsk.cells, List.getElem?_toArray, List.getElem?_cons_zero, List.getElem?_cons_succ] at g4 g5 g6 g7
            obtain ⟨E9, hE9⟩ : ∃ E9 : World, (((v99.setCell ⟨w10.heap.size, 4, none⟩ (.int .u8 47)).setCell ⟨w10.heap.size, 5, none⟩ (.int .i64 0)).setCell ⟨w10.heap.size, 6, none⟩ (.string ⟨#[]⟩)).setCell ⟨w10.heap.size, 7, none⟩ (.slice ra5 (t.body.len + 1) rc5) = E9 := ⟨_, rfl⟩
            have hX9 : E9.heap[w10.heap.size]? = some (tskObj (bodyT t (endT t (outT n.name))) ⟨qva, qvc, qaa, qac, ra5, rc5⟩) := by rw [← hE9, mem_set (mem_set (mem_set (mem_set q0)))]; rfl
            have hoth : ∀ k, k ≠ w10.heap.size → E9.heap[k]? = v99.heap[k]? := fun k hk => by rw [← hE9, Below.heap_setCell _ _ _ _ hk, Below.heap_setCell _ _ _ _ hk, Below.heap_setCell _ _ _ _ hk, Below.heap_setCell _ _ _ _ hk]
            have HB9 : Hid (Below w10.heap.size w10 E9) := by show Below _ _ _; rw [← hE9]; exact ((((mem_then HBW.out HA99.out.bel).setCell (p := ⟨w10.heap.size, 4, none⟩) (Nat.le_refl _) _).setCell (p := ⟨w10.heap.size, 5, none⟩) (Nat.le_refl _) _).setCell (p := ⟨w10.heap.size, 6, none⟩) (Nat.le_refl _) _).setCell (p := ⟨w10.heap.size, 7, none⟩) (Nat.le_refl _) _
            have HR9 : Hid (Rep E9 (endT t (outT n.name)) ra5) := by
              have hlG := HLG.out
              refine end_rep (own_keep HA99.out.own (fun k hk _ => hoth k (by have := (own_lt HA99.out.own hk).1; omega))) (fun j hj => ((HKIDS.out j hj).below HB9.out)) ?_ (by omega)
              have hb6 := HA99.out.blk (v0.heap.size, .cells #[.int .u8 2, .int .i64 0, .string n.name, .slice none 0 0] 43) (by simp)
              exact outT_rep ((hoth _ (by have := HA0.out.bel.size; omega)).trans hb6.1) HFN.out.name
            have HX9 := Lib.hid hX9
            clear q0 hX9 hoth
            refine wpAnyH_ready (rs := [12]) (by kernel_rfl) (by simp) (AllReadyH.cons rfl (fun K hK => ?_) AllReadyH.nil)
            go_simp
            try rw [hE9]
            clear hE9 f4 f5 f6 f7 g4 g5 g6 g7
            refine hK.out _ _ (HB9.out) (fun hHeld => ?_)
            clear hK K
            rename_i hOld
            clear hOld
            (try simp only [Act.put, List.getElem_toArray, List.getElem_cons_zero, List.getElem_cons_succ, List.setIfInBounds_toArray, List.set_cons_zero, List.set_cons_succ])
            refine wpAnyH_done (by kernel_rfl) ?_ _
            exact ⟨[_, _, _, _, _, _, _, _, _, _, _, _], rfl, (by simp only [putAll, List.setIfInBounds_toArray, List.set_cons_zero, List.set_cons_succ]; rfl), ra5, rc5, HX9.out, HR9.out, HB9.out⟩
      rintro a' w11 ⟨l, hl, rfl, A11, c11, hx11, hr11, hB11⟩
      obtain ⟨l0, l1, l2, l3, l4, l5, l6, l7, l8, l9, l10, l11, rfl⟩ := list12i hl
      simp only [putAll, List.setIfInBounds_toArray, List.set_cons_zero, List.set_cons_succ]
      have HX11 := Lib.hid hx11
      have HZ11 : Hid (Below Z.heap.size Z w11) := mem_then HZ10.out hB11
      have HI11 : Hid (TskIn w11 (bodyT t (endT t (outT n.name))) ⟨qva, qvc, qaa, qac, A11, c11⟩) := by
        have h6 := HI10.out.below hB11
        exact ⟨h6.name, h6.period, h6.vars, h6.arrays, hr11⟩
      obtain ⟨B11, hB11d⟩ : ∃ B, endT t (outT n.name) = B := ⟨_, rfl⟩
      rw [hB11d] at HX11 HI11
      have HBD := Lib.hid hB11d
      clear hl hx11 hr11 hB11 hB11d HSRCB HKIDS
      have x0 := mem_cell HX11.out 0
      have x1 := mem_cell HX11.out 1
      have x2 := mem_cell HX11.out 2
      have x3 := mem_cell HX11.out 3
      have x4 := mem_cell HX11.out 4
      have x5 := mem_cell HX11.out 5
      have x6 := mem_cell HX11.out 6
      have x7 := mem_cell HX11.out 7
      simp only [Tsk.cells, bodyT, List.getElem?_toArray, List.getElem?_cons_zero, List.getElem?_cons_succ] at x0 x1 x2 x3 x4 x5 x6 x7
      obtain ⟨_, hx1, hp11, _, hx2, _⟩ := HKZ.out w11 HZ11.out
      have y0 := mem_cell hx1 0
      have y1 := mem_cell hx1 1
      have y2 := mem_cell hx2 0
      simp only [List.getElem?_toArray, List.getElem?_cons_zero, List.getElem?_cons_succ] at y0 y1 y2
      have hsw := swap_any p i (bodyT t B11) ⟨qva, qvc, qaa, qac, A11, c11⟩ w11 sa (some ⟨tb, tf, none⟩) sc tc hp11 HI11.out hil (by omega)
      have HSW := Lib.hid hsw
      clear hx1 hx2 hp11 hsw
      go_wp2_with fail
      clear x0 x1 x2 x3 x4 x5 x6 x7 y0 y1 y2
      have h9 := HSW.out
      refine h9.mono ?_
      clear h9 HSW
      rintro e w12 ⟨ta12, tc12, rfl, hp12, hB12⟩
      obtain ⟨q3, hq3⟩ : ∃ q, swapP p i (bodyT t B11) = q := ⟨_, rfl⟩
      obtain ⟨ok3, hok3⟩ : ∃ ok, prgOk q3 = ok := ⟨_, rfl⟩
      have HON27 : Hid (ok3 = true → onlyP q3 (i : Int) 6 [[(t.body.len : Int), 0]] = true) := fun hv => by
        have h := end_check HT.out HOK.out hil HLOOP.out (vld_block (tskOk_vld HTOK.out)) (by rw [HBD.out, hq3, hok3]; exact hv)
        rw [HBD.out, hq3] at h
        exact h
      rw [hq3] at hp12 ⊢
      obtain ⟨F12, hF12⟩ : ∃ N : World, w12.alloc (prgObj q3 sa sc ta12 tc12) = N := ⟨_, rfl⟩
      have hBF12 : Below w12.heap.size w12 F12 := by rw [← hF12]; exact mem_alloc _ _
      have HQ12 : Hid (F12.heap[w12.heap.size]? = some (prgObj q3 sa sc ta12 tc12)) := by show _ = _; rw [← hF12]; exact mem_new _ _
      have HZ12 : Hid (Below Z.heap.size Z F12) := mem_then HZ11.out (mem_then hB12 hBF12)
      have HP12 := Lib.hid (hp12.below hBF12)
      have hva := valid_any q3 F12 sa ta12 sc tc12 HP12.out (HKZ.out F12 HZ12.out).2.2.2.1
      rw [hok3] at hva
      have HVA := Lib.hid hva
      have e0 := mem_cell HQ12.out 0
      have e1 := mem_cell HQ12.out 1
      simp only [List.getElem?_toArray, List.getElem?_cons_zero, List.getElem?_cons_succ] at e0 e1
      clear hp12 hB12 hBF12 hva hq3 hok3
      go_wp2_with fail
      clear hF12 e0 e1
      have h9 := HVA.out
      refine h9.mono ?_
      clear h9 HVA
      rintro e w13 ⟨rfl, hB13⟩
      have HZ13 : Hid (Below Z.heap.size Z w13) := mem_then HZ12.out hB13
      have HQ13 := Lib.hid (mem_keep HQ12.out hB13)
      have HP13 := Lib.hid (HP12.out.below hB13)
      clear hB13
      cases ok3 with
      | false =>
        go_wp2_with fail
        go_ret
        exact ⟨rfl, (HKZ.out w13 HZ13.out).1⟩
      | true =>
        have hon := HON27.out rfl
        have HO := Lib.hid hon
        obtain ⟨X1, hX1⟩ : ∃ N : World, w13.alloc (.cells #[.int .i64 (t.body.len : Int), .int .i64 0] 3) = N := ⟨_, rfl⟩
        have hBX1 : Below w13.heap.size w13 X1 := by rw [← hX1]; exact mem_alloc _ _
        have hXX1 : X1.heap[w13.heap.size]? = some (.cells #[.int .i64 (t.body.len : Int), .int .i64 0] 3) := by rw [← hX1]; exact mem_new _ _
        obtain ⟨X2, hX2⟩ : ∃ N : World, X1.alloc (.cells #[.slice (some ⟨w13.heap.size, 0, none⟩) 2 2] 33) = N := ⟨_, rfl⟩
        have hBX2 : Below X1.heap.size X1 X2 := by rw [← hX2]; exact mem_alloc _ _
        have hXX2 : X2.heap[X1.heap.size]? = some (.cells #[.slice (some ⟨w13.heap.size, 0, none⟩) 2 2] 33) := by rw [← hX2]; exact mem_new _ _
        have HPS : Hid (PathsAt X2 (some ⟨X1.heap.size, 0, none⟩) [[(t.body.len : Int), 0]]) := ⟨by show 1 ≤ _; omega, fun m hm => by
          have hm : m < 1 := hm
          obtain rfl : m = 0 := by omega
          have hr : IRow X1 (some ⟨w13.heap.size, 0, none⟩) [(t.body.len : Int), 0] := irow_new hXX1 (by show 2 ≤ _; omega)
          exact ⟨X1.heap.size, 0, some ⟨w13.heap.size, 0, none⟩, 2, rfl, mem_cell hXX2 0, hr.below hBX2⟩⟩
        have HBX := Lib.hid (mem_then hBX1 hBX2)
        have HO2 := Lib.hid (only_any q3 (i : Int) 6 [[(t.body.len : Int), 0]] X2 sa ta12 (some ⟨X1.heap.size, 0, none⟩) sc tc12 1 (HP13.out.below HBX.out) (HKZ.out X2 (mem_then HZ13.out HBX.out)).2.2.2.1 HPS.out)
        have e0 := mem_cell HQ13.out 0
        have e1 := mem_cell HQ13.out 1
        obtain ⟨_, _, _, _, hx2, hx3, _⟩ := HKZ.out w13 HZ13.out
        have e2 := mem_cell hx2 0
        have e7 := mem_cell hx3 7
        simp only [Tsk.cells, List.getElem?_toArray, List.getElem?_cons_zero, List.getElem?_cons_succ] at e0 e1 e2 e7
        clear hon hBX1 hXX1 hBX2 hXX2 hx2 hx3
        go_wp2_with fail
        clear hX1 hX2 e0 e1 e2 e7
        have h9 := HO2.out
        refine h9.mono ?_
        clear h9 HO2
        rintro e w14 ⟨he, hB14⟩
        rw [HO.out] at he
        subst he
        have HB14 := Lib.hid (HKZ.out w14 (mem_then HZ13.out (mem_then HBX.out hB14))).1
        clear hB14
        go_wp2_with fail
        go_ret
        exact ⟨rfl, HB14.out⟩
end Go.Proofs.YtnegdmhmhdojbaaDoor
