/-
  Mg47: several texts in one (IrFinish, IrLawFns, EqPair).
-/
import Derived.Test.YteknhnnlhhgppaaDoorIrSetup
import Derived.Test.YteknhnnlhhgppaaDoorIrExec
import Derived.Test.YteknhnnlhhgppaaDoorMg33
import Derived.Test.YteknhnnlhhgppaaDoorMg0
import Derived.Deep.QuietTactic
import Derived.BigQuiet
import Derived.WalkLawsBesides
import Derived.Laws.StructEq
import Derived.Test.YteknhnnlhhgppaaDoorMg23
import Derived.ChangeKeysEq
/-
  The outcome of a run in memory (package ir: Run).
-/
namespace Go.Proofs.YteknhnnlhhgppaaDoor
set_option linter.unusedVariables false
set_option linter.unusedSimpArgs false
open Go.RowKit
set_option maxRecDepth 100000

theorem ContAt.word {w : World} {a : Option Addr} {l : List (List Int)} (h : ContAt w a l) {r : List Int} (hr : r ∈ l) : ∀ x ∈ r, Wd.W x := by
  obtain ⟨k, hk⟩ := List.getElem?_of_mem hr
  have hkl := (List.getElem?_eq_some_iff.1 hk).1
  rcases h.at_ with h0 | ⟨b, off, _, hc⟩
  · omega
  · obtain ⟨ra, rc, _, _, hw⟩ := hc k r hk
    exact hw.words
/-- the outcome of a run -/
structure Oc where
  arrays : List (List Int)
  objects : List (List Int)
  out : List (Int × Int)
  read : Nat
  steps : Nat
  err : Int
/-- outputs in memory -/
structure OutsAt (w : World) (a : Option Addr) (l : List (Int × Int)) : Prop where
  fits : l.length ≤ 9223372036854775807
  at_ : l.length = 0 ∨ ∃ b off, a = some ⟨b, off, none⟩ ∧ ∀ (k : Nat) (p : Int × Int), l[k]? = some p → w.cell? ⟨b, off + k * 2, none⟩ = some (.int .i64 p.1) ∧ w.cell? ⟨b, off + k * 2 + 1, none⟩ = some (.int .i32 p.2)
theorem OutsAt.below {w w' : World} {a : Option Addr} {l : List (Int × Int)} (h : OutsAt w a l) (hb : Below w.heap.size w w') : OutsAt w' a l := by
  refine ⟨h.fits, ?_⟩
  rcases h.at_ with h0 | ⟨b, off, ha, hk⟩
  · exact .inl h0
  · exact .inr ⟨b, off, ha, fun k p hp => ⟨cell_below hb (hk k p hp).1, cell_below hb (hk k p hp).2⟩⟩
/-- an outcome in memory -/
def OcAt (w : World) (v : Value) (o : Oc) : Prop := ∃ (aa oa ua : Option Addr) (ac ocp uc : Nat), v = .agg #[.slice aa o.arrays.length ac, .slice oa o.objects.length ocp, .slice ua o.out.length uc, .int .i64 (o.read : Nat), .int .i64 (o.steps : Nat), .int .i64 o.err] ∧ ContAt w aa o.arrays ∧ ContAt w oa o.objects ∧ OutsAt w ua o.out ∧ o.out.length ≤ uc ∧ uc ≤ 9223372036854775807 ∧ (ua = none → uc = 0)
/-- a row of rows of words: what its block holds -/
def OcRowTy (w : World) (a : Option Addr) (n : Nat) : Prop := n = 0 ∨ ∃ b off arr, a = some ⟨b, off, none⟩ ∧ w.heap[b]? = some (.cells arr 66)
theorem own_rowty {N : Nat} {w : World} {a : Option Addr} {n c : Nat} {vs : List Value} (h : w.ownsRow N 66 1 (.slice a n c) n vs) : OcRowTy w a n := by
  rcases h.2 with ⟨e1, _⟩ | ⟨g, cap, cur, e1, _, hc, _⟩
  · injection e1 with _ e2 _; exact .inl e2
  · injection e1 with e1 _ _; exact .inr ⟨g, 0, cur, e1, hc⟩
/-- the outcome of a run, and what its rows' blocks hold -/
def OcBoth (w : World) (v : Value) (o : Oc) : Prop := ∃ (aa oa ua : Option Addr) (ac ocp uc : Nat), v = .agg #[.slice aa o.arrays.length ac, .slice oa o.objects.length ocp, .slice ua o.out.length uc, .int .i64 (o.read : Nat), .int .i64 (o.steps : Nat), .int .i64 o.err] ∧ (ContAt w aa o.arrays ∧ ContAt w oa o.objects ∧ OutsAt w ua o.out ∧ o.out.length ≤ uc ∧ uc ≤ 9223372036854775807 ∧ (ua = none → uc = 0)) ∧ OcRowTy w aa o.arrays.length ∧ OcRowTy w oa o.objects.length
theorem OcBoth.oc {w : World} {v : Value} {o : Oc} (h : OcBoth w v o) : OcAt w v o := by
  obtain ⟨aa, oa, ua, ac, ocp, uc, h1, h2, _⟩ := h
  exact ⟨aa, oa, ua, ac, ocp, uc, h1, h2⟩
theorem OcAt.below {w w' : World} {v : Value} {o : Oc} (h : OcAt w v o) (hb : Below w.heap.size w w') : OcAt w' v o := by
  obtain ⟨aa, oa, ua, ac, ocp, uc, h1, h2, h3, h4⟩ := h
  exact ⟨aa, oa, ua, ac, ocp, uc, h1, h2.below hb, h3.below hb, h4.1.below hb, h4.2⟩
theorem ownsRow_cap {w : World} {base : Nat} {e : TypeId} {size : Nat} {a : Option Addr} {n c : Nat} {xs : List Value} (h : w.ownsRow base e size (.slice a n c) n xs) : n ≤ c ∧ c ≤ 9223372036854775807 ∧ (a = none → c = 0) := by
  rcases h.2 with ⟨h1, h2⟩ | ⟨g, cap, cur, h1, _, _, h2, h3, _⟩
  · injection h1 with h1 h4 h5
    exact ⟨by omega, by omega, fun _ => h5⟩
  · injection h1 with h1 h4 h5
    have : cap ≤ 9223372036854775807 := h3
    exact ⟨by omega, by omega, fun h => by rw [h] at h1; cases h1⟩
theorem addr_add (b off k : Nat) : (⟨b, off, none⟩ : Addr).add k = ⟨b, off + k, none⟩ := by
  unfold Addr.add
  by_cases h0 : k = 0 <;> simp [h0]
theorem words_of_row {w : World} {base : Nat} {a : Option Addr} {c : Nat} {l : List Int} (h : w.ownsRow base 21 1 (.slice a l.length c) l.length (w32 l)) (hw : ∀ x ∈ l, Wd.W x) : (a = none → c = 0) ∧ WordsAt w a l := by
  refine ⟨?_, ⟨ownsRow_len h, hw, ?_⟩⟩
  · rcases h.2 with ⟨h1, _⟩ | ⟨g, cap, cur, h1, _⟩
    · injection h1 with h1 h2 h3; intro _; exact h3
    · injection h1 with h1; intro h2; rw [h2] at h1; cases h1
  · by_cases h0 : l.length = 0
    · exact .inl h0
    · obtain ⟨b, rfl⟩ := ownsRow_some h (by omega)
      refine .inr ⟨b, 0, rfl, fun k x hx => ?_⟩
      have := h.cells rfl k (.int .i32 x) (by simp [w32, hx])
      rwa [addr_add] at this
theorem outs_at {l : List (Int × Int)} : ∀ {k : Nat} {p : Int × Int}, l[k]? = some p → (outs l)[k * 2]? = some (.int .i64 p.1) ∧ (outs l)[k * 2 + 1]? = some (.int .i32 p.2) := by
  induction l with
  | nil => intro k p h; simp at h
  | cons q l ih =>
    intro k p h
    cases k with
    | zero => cases h; exact ⟨rfl, rfl⟩
    | succ k =>
      have h' : l[k]? = some p := by simpa using h
      obtain ⟨h1, h2⟩ := ih h'
      have e1 : (k + 1) * 2 = k * 2 + 2 := by omega
      have e2 : (k + 1) * 2 + 1 = k * 2 + 1 + 2 := by omega
      rw [e2, e1]
      exact ⟨h1, h2⟩
theorem outs_of_row {w : World} {base : Nat} {a : Option Addr} {c : Nat} {l : List (Int × Int)} (h : w.ownsRow base 118 2 (.slice a l.length c) l.length (outs l)) : OutsAt w a l := by
  refine ⟨ownsRow_len h, ?_⟩
  by_cases h0 : l.length = 0
  · exact .inl h0
  · obtain ⟨b, rfl⟩ := ownsRow_some h (by omega)
    refine .inr ⟨b, 0, rfl, fun k p hp => ?_⟩
    obtain ⟨h1, h2⟩ := outs_at hp
    have e1 := h.cells rfl _ _ h1
    have e2 := h.cells rfl _ _ h2
    rw [addr_add] at e1 e2
    exact ⟨e1, by rw [Nat.add_assoc]; exact e2⟩
/-- a row of rows -/
theorem cont_of_row {w : World} {base base' : Nat} {a : Option Addr} {c : Nat} {vs : List Value} {m : List (List Int)} (h : w.ownsRow base 66 1 (.slice a vs.length c) vs.length vs) (hl : m.length = vs.length)
    (hr : ∀ k, k < m.length → w.ownsRow base' 21 1 (vs.getD k undef) (m.getD k []).length (w32 (m.getD k []))) (hw : ∀ r ∈ m, ∀ x ∈ r, Wd.W x) : ContAt w a m := by
  refine ⟨by rw [hl]; exact ownsRow_len h, ?_⟩
  by_cases h0 : m.length = 0
  · exact .inl h0
  · obtain ⟨b, rfl⟩ := ownsRow_some h (by omega)
    refine .inr ⟨b, 0, rfl, fun k r hk => ?_⟩
    obtain ⟨hkl, hke⟩ := List.getElem?_eq_some_iff.1 hk
    have h1 := hr k hkl
    have hm : m.getD k [] = r := by simp [hk]
    rw [hm] at h1
    obtain ⟨ra, rc, hv⟩ := ownsRow_val h1
    rw [hv] at h1
    obtain ⟨p1, p2⟩ := words_of_row h1 (hw r (List.mem_of_getElem? hk))
    refine ⟨ra, rc, ?_, p1, p2⟩
    have hvk : vs[k]? = some (.slice ra r.length rc) := by
      rw [← hv]
      have : k < vs.length := by omega
      simp [this]
    have := h.cells rfl k _ hvk
    rwa [addr_add] at this
section
variable {N n : Nat} {W1 w w8 X : World} {inv va vo ov : Value} {ml : List (ByteArray × Value)} {la lo : List Value} {mem : List (List Int)} {names : List ByteArray} {s : St} {t steps : Nat} {err : Int}
theorem finish (h : SetAt N W1 n inv w ml va vo la lo mem) (hF : Frame ⟨N + 2, N, N + 1, la ++ lo, inv⟩ (.slice none 0 0) ov w w8) (hR : RunAt N ⟨N + 2, N, N + 1, la ++ lo, inv⟩ names w8 ov s) (ht : t < N) (hX : ∀ k, k ≠ N + 3 → k ≠ t → X.heap[k]? = w8.heap[k]?) :
    OcBoth X (.agg #[va, vo, ov, .int .i64 (s.read : Nat), .int .i64 (steps : Nat), .int .i64 err]) ⟨s.mem.take la.length, s.mem.drop la.length, s.out, s.read, steps, err⟩ := by
  have hml : s.mem.length = la.length + lo.length := by have := hR.nrows; simp at this; omega
  have old : ∀ {v : Value} {e : TypeId} {m : Nat} {xs : List Value}, (v.ownBlock = va.ownBlock ∨ v.ownBlock = vo.ownBlock) → w.ownsRow (N + 4) e 1 v m xs → X.ownsRow (N + 4) e 1 v m xs := fun hv ho => ownsRow_move ho (fun k hk hl => by
    have hk4 := (ownsRow_lt ho hk).1
    refine (hX k (by omega) (by omega)).trans (hF.block k hl (h.notOurs (.inr ?_)))
    rcases hv with hv | hv
    · exact .inl (by rw [← hv, hk])
    · exact .inr (by rw [← hv, hk]))
  have oa := old (.inl rfl) h.oa
  have oo := old (.inr rfl) h.oo
  have row : ∀ j, j < s.mem.length → X.ownsRow N 21 1 ((la ++ lo).getD j undef) (s.row j).length (w32 (s.row j)) := fun j hj => ownsRow_move (hR.rows j hj) (fun k hk _ => by
    have hjm : j < mem.length := by have := h.len; simp at this; omega
    have := (ownsRow_lt (h.rows j hjm) hk).1
    exact hX k (by omega) (by omega))
  have out : X.ownsRow N 118 2 ov s.out.length (outs s.out) := ownsRow_move hR.out (fun k hk _ => by
    have h1 := (ownsRow_lt hR.out hk).1
    refine hX k (fun e => ?_) (by omega)
    rcases hF.ovs k hk with h2 | h2
    · simp [Value.ownBlock] at h2
    · have := h.size; omega)
  obtain ⟨aa, ac, rfl⟩ := ownsRow_val oa
  obtain ⟨oa', oc, rfl⟩ := ownsRow_val oo
  obtain ⟨ua, uc, rfl⟩ := ownsRow_val out
  have t1 : (s.mem.take la.length).length = la.length := by simp; omega
  have t2 : (s.mem.drop la.length).length = lo.length := by simp; omega
  refine ⟨aa, oa', ua, ac, oc, uc, by rw [t1, t2], ⟨?_, ?_, outs_of_row out, ownsRow_cap out⟩, by show OcRowTy X aa (s.mem.take la.length).length; rw [t1]; exact own_rowty oa, by show OcRowTy X oa' (s.mem.drop la.length).length; rw [t2]; exact own_rowty oo⟩
  · refine cont_of_row (base' := N) oa t1 (fun k hk => ?_) (fun r hr => hR.wf.mem r (List.mem_of_mem_take hr))
    rw [t1] at hk
    have := row k (by omega)
    have e1 : (la ++ lo).getD k undef = la.getD k undef := by simp [List.getElem?_append_left hk]
    have e2 : (s.mem.take la.length).getD k [] = s.row k := by simp [St.row, hk]
    rw [e2, ← e1]
    exact this
  · refine cont_of_row (base' := N) oo t2 (fun k hk => ?_) (fun r hr => hR.wf.mem r (List.mem_of_mem_drop hr))
    rw [t2] at hk
    have := row (la.length + k) (by omega)
    have e1 : (la ++ lo).getD (la.length + k) undef = lo.getD k undef := by simp [List.getElem?_append_right (Nat.le_add_right la.length k)]
    have e2 : (s.mem.drop la.length).getD k [] = s.row (la.length + k) := by simp [St.row]
    rw [e2, ← e1]
    exact this
end
end Go.Proofs.YteknhnnlhhgppaaDoor

/-
  Contracts: small, contents, equal (package ontimelaw17), Contents, Outputs (package ontimeref17), the last three where both sides are alike.
-/
namespace Go.Proofs.YteknhnnlhhgppaaDoor
set_option linter.unusedVariables false
set_option linter.unusedSimpArgs false
open Go.RowKit
set_option maxRecDepth 100000
set_option maxHeartbeats 8000000

/-- whether a function is within the bounds of the statements -/
def smallOk (f : Fn) : Bool := decide (f.blocks.length ≤ 30) && decide (f.arrays.length ≤ 12) && decide (f.regs ≤ 200) && f.blocks.all (fun b => decide (b.code.length ≤ 40))
def contsOk (l : List (List Int)) : Bool := decide (l.length ≤ 12) && l.all (fun r => decide (r.length ≤ 40))
def bit01 (b : Bool) : Int := bif b then 1 else 0

theorem out_cmp (W : World) (x y : Int) : (binOp .neq 118 (.agg #[.int .i64 x, .int .i32 y]) (.agg #[.int .i64 x, .int .i32 y])).run Tryd.prog W = .ok (.bool false) W := by
  have u3 := Tryd.underlying3
  have a3 := Tryd.isAgg3
  have z3 := Tryd.sizeOf3
  have u9 := Tryd.underlying21
  have a9 := Tryd.isAgg21
  have z9 := Tryd.sizeOf21
  have hS : Tryd.prog.underlying 118 = some (.struct (Tryd.prog.fieldsOf 118)) := by kernel_rfl
  have hp : Tryd.prog.stoodInHeld 118 = false := by kernel_rfl
  rw [run_neq_struct, show (10000 : Nat) = 9999 + 1 from rfl, run_equalIn_agg W 9999 118 _ _ hS hp]
  simp only [Program.fieldsOf, Tryd.underlying118]
  go_simp
end Go.Proofs.YteknhnnlhhgppaaDoor

/-
  Contract: slices.Equal of two rows of pairs that are alike.
-/
namespace Go.Proofs.YteknhnnlhhgppaaDoor
set_option linter.unusedVariables false
set_option linter.unusedSimpArgs false
open Go.RowKit
set_option maxRecDepth 100000
set_option maxHeartbeats 8000000

theorem pair_cmp (W : World) (x y : Int) : (binOp .neq 80 (.agg #[.int .i64 x, .int .i64 y]) (.agg #[.int .i64 x, .int .i64 y])).run Tryd.prog W = .ok (.bool false) W := by
  have u3 := Tryd.underlying3
  have a3 := Tryd.isAgg3
  have z3 := Tryd.sizeOf3
  obtain ⟨i0, hi, hz0, hz1, hz2⟩ := info_parts Tryd.infoInt
  have hc : Tryd.prog.cellsOf 3 = 1 := by kernel_rfl
  rw [run_neq_struct, show (10000 : Nat) = 9999 + 1 from rfl, run_equalIn_array W 9999 _ _ Tryd.underlying80 hi, hc]
  rw [show List.range 2 = [0, 1] from rfl]
  unfold Op.eqItems
  go_simp
  unfold Op.eqItems
  go_simp
  unfold Op.eqItems
  go_simp
theorem pair_at {w : World} {B g n c j : Nat} {D : List (Int × Int)} {x : Int × Int} (h : w.ownsRow B 80 2 (.slice (some ⟨g, 0, none⟩) n c) n (D.flatMap encP)) (hx : D[j]? = some x) :
    w.cell? ⟨g, j * 2, none⟩ = some (.int .i64 x.1) ∧ w.cell? ⟨g, j * 2 + 1, none⟩ = some (.int .i64 x.2) := by
  have h1 : ∀ (D : List (Int × Int)) (j : Nat) (x : Int × Int), D[j]? = some x → (D.flatMap encP)[j * 2]? = some (.int .i64 x.1) ∧ (D.flatMap encP)[j * 2 + 1]? = some (.int .i64 x.2) := by
    intro D
    induction D with
    | nil => intro j x h; simp at h
    | cons y r ih =>
      intro j x h
      cases j with
      | zero => obtain rfl : y = x := by simpa using h
                exact ⟨rfl, rfl⟩
      | succ j =>
        have h9 := ih j x (by simpa using h)
        rw [List.flatMap_cons, show (j + 1) * 2 = j * 2 + 2 by omega]
        exact h9
  exact ⟨own_cell h (h1 D j x hx).1, own_cell h (h1 D j x hx).2⟩
theorem pairs_len (D : List (Int × Int)) : (D.flatMap encP).length = D.length * 2 := by
  induction D with
  | nil => rfl
  | cons x r ih => rw [List.flatMap_cons, List.length_append, ih, List.length_cons]; show 2 + _ = _; omega
theorem eqpair_any (D : List (Int × Int)) (n B1 B2 : Nat) (va vb : Value) (w : World) (hD : D.length = n) (hn : n ≤ 1000000) (ha : w.ownsRow B1 80 2 va n (D.flatMap encP)) (hb : w.ownsRow B2 80 2 vb n (D.flatMap encP)) :
    Calls Tryd.prog 39 #[va, vb] w fun e w' => e = .returned (.bool true) ∧ ∃ m, w' = World.drewN w m := by
  obtain ⟨aa, ac, rfl⟩ := ownsRow_val ha
  obtain ⟨ba, bc, rfl⟩ := ownsRow_val hb
  have HA := Lib.hid ha
  have HB9 := Lib.hid hb
  have HD9 := Lib.hid hD
  clear ha hb hD
  go_enter Tryd.func39, Tryd.ntmps39
  go_wp2_with fail
  go_loopw [13] (fun i wr => ∃ j : Nat, j ≤ n ∧ i = .int .i64 (j : Int) ∧ ∃ m, wr = World.drewN w m) (fun i _ => n - (intOf i).toNat)
  case atStart => exact ⟨0, Nat.zero_le _, rfl, 0, rfl⟩
  case round =>
    obtain ⟨j, hj, rfl, hB⟩ := hrel
    have HD := Lib.hid hB
    have HB := Lib.hid (below_drew hB)
    clear hB
    have hk0 : (0 : Int) ≤ (j : Int) := by omega
    by_cases hlt : j < n
    · obtain ⟨x, hx⟩ : ∃ x, D[j]? = some x := ⟨_, List.getElem?_eq_getElem (by rw [HD9.out]; exact hlt)⟩
      obtain ⟨ga, rfl⟩ : ∃ g, aa = some ⟨g, 0, none⟩ := by
        rcases HA.out.2 with ⟨_, h0⟩ | ⟨g, c, _, h0, _⟩
        · omega
        · injection h0 with h0 _ _; exact ⟨g, h0⟩
      obtain ⟨gb, rfl⟩ : ∃ g, ba = some ⟨g, 0, none⟩ := by
        rcases HB9.out.2 with ⟨_, h0⟩ | ⟨g, c, _, h0, _⟩
        · omega
        · injection h0 with h0 _ _; exact ⟨g, h0⟩
      obtain ⟨p1, p2⟩ := pair_at HA.out hx
      obtain ⟨p3, p4⟩ := pair_at HB9.out hx
      have f1 := cell_below HB.out p1
      have f2 := cell_below HB.out p2
      have f3 := cell_below HB.out p3
      have f4 := cell_below HB.out p4
      have hk1 : (j : Int) < (n : Int) := by omega
      have hcmp := fun W => pair_cmp W x.1 x.2
      clear hx p1 p2 p3 p4
      go_wp2_with fail
      go_quiet (fail)
      generalize hV : World.drewN _ _ = V
      have HBV : Hid (∃ m, V = World.drewN w m) := drew_more HD.out hV
      clear hV
      go_wp2_with fail
      go_roundw
      case rel => exact ⟨j + 1, by omega, by go_num, HBV.out⟩
      case measure => simp [intOf]; omega
    · obtain rfl : j = n := by omega
      go_wp2_with fail
      go_ret
      exact ⟨rfl, HD.out⟩
end Go.Proofs.YteknhnnlhhgppaaDoor
