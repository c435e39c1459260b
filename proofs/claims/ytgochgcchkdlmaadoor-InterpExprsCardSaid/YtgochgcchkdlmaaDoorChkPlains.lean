/-
  ChkPlains: several texts in one (ChkBlock, ChkOnly, ChkSwap, ChkPlain, ChkTwiceP).
-/
import Derived.Test.YtgochgcchkdlmaaDoorChkRows
import Derived.Test.YtgochgcchkdlmaaDoorMemSet
import Derived.Deep.RegionHeld3
/-
  Contract: block (package ontimelaw15).
-/
namespace Go.Proofs.YtgochgcchkdlmaaDoor
set_option linter.unusedVariables false
set_option linter.unusedSimpArgs false
open Go.RowKit
set_option maxRecDepth 100000
set_option maxHeartbeats 4000000

/-- a path's row, read -/
theorem PathV.row {N : Nat} {w : World} {a : Option Addr} {c : Nat} {p : List Int} (h : PathV N w (.slice a p.length c) p) : IRow w a p := by
  refine ⟨own_size h, fun i hi => ?_⟩
  obtain ⟨b, rfl, _, _⟩ := own_at h (by omega)
  refine ⟨b, 0, rfl, ?_⟩
  rw [Nat.zero_add]
  refine own_get h ?_
  unfold ints
  simp [hi]
/-- a new row of ints, read -/
theorem irow_new {w : World} {b : Nat} {p : List Int} {T : TypeId} (h : w.heap[b]? = some (.cells (ints p).toArray T)) (hp : p.length ≤ 1000000) : IRow w (some ⟨b, 0, none⟩) p := by
  refine ⟨by omega, fun i hi => ⟨b, 0, rfl, ?_⟩⟩
  rw [mem_cell h]
  unfold ints
  simp [hi]
/-- what the rows of faults hold, cell for cell -/
theorem FltsAt.cell {N g m cap j : Nat} {w : World} {L : List FltP} {u : Value} (h : FltsAt N w (.slice (some ⟨g, 0, none⟩) m cap) L) (hu : (L.flatMap FltP.cells)[j]? = some u) : w.cell? ⟨g, j, none⟩ = some u := own_get h.ro hu
/-- a tree whose children's row is a block of one or two nodes -/
def one1 (k : Int) (s : ByteArray) (x : Tree) : Tree := Tree.make k 0 s 1 (fun _ => x)
def two1 (k : Int) (x y : Tree) : Tree := Tree.make k 0 ⟨#[]⟩ 2 (fun i => if i = 0 then x else y)
theorem leaf_rep {w : World} {k n : Int} {s : ByteArray} {a : Option Addr} (hk : 0 ≤ k ∧ k ≤ 255) (hn : 0 ≤ n ∧ n ≤ 1) (hs : s.size ≤ 5) : Rep w (Tree.leaf k n s) a :=
  Rep.mk ⟨hk, ⟨by show _ ≤ n; omega, by show n ≤ _; omega⟩, by show s.size ≤ _; omega, Nat.zero_le _⟩ (.inl rfl)
theorem one1_rep {w : World} {b k : Nat} {s : ByteArray} {x : Tree} {a : Option Addr} {c : Nat} {T : TypeId}
    (hb : w.heap[b]? = some (.cells #[.int .u8 x.kind, .int .i64 x.num, .string x.name, .slice a x.len c] T)) (hk : k ≤ 255) (hs : s.size ≤ 5) (hx : Rep w x a) : Rep w (one1 k s x) (some ⟨b, 0, none⟩) := by
  have hc := mem_cell hb
  refine Rep.mk ⟨⟨Int.natCast_nonneg k, by show (k : Int) ≤ 255; omega⟩, ⟨by show (-9223372036854775808 : Int) ≤ 0; omega, by show (0 : Int) ≤ 9223372036854775807; omega⟩, by show s.size ≤ _; omega, by show 1 ≤ _; omega⟩ (.inr ⟨b, 0, rfl, fun i hi => ?_⟩)
  have hi' : i < 1 := hi
  rw [show (one1 k s x).kid i = x from Tree.make_kid hi']
  obtain rfl : i = 0 := by omega
  exact ⟨a, c, ⟨hc 0, hc 1, hc 2, hc 3⟩, hx⟩
theorem two1_rep {w : World} {b k : Nat} {t0 t1 : Tree} {a0 a1 : Option Addr} {c0 c1 : Nat} {T : TypeId}
    (hb : w.heap[b]? = some (.cells #[.int .u8 t0.kind, .int .i64 t0.num, .string t0.name, .slice a0 t0.len c0, .int .u8 t1.kind, .int .i64 t1.num, .string t1.name, .slice a1 t1.len c1] T))
    (hk : k ≤ 255) (h0 : Rep w t0 a0) (h1 : Rep w t1 a1) : Rep w (two1 k t0 t1) (some ⟨b, 0, none⟩) := by
  have hc := mem_cell hb
  refine Rep.mk ⟨⟨Int.natCast_nonneg k, by show (k : Int) ≤ 255; omega⟩, ⟨by show (-9223372036854775808 : Int) ≤ 0; omega, by show (0 : Int) ≤ 9223372036854775807; omega⟩, by show (0 : Nat) ≤ _; omega, by show 2 ≤ _; omega⟩ (.inr ⟨b, 0, rfl, fun i hi => ?_⟩)
  have hi' : i < 2 := hi
  rw [show (two1 k t0 t1).kid i = if i = 0 then t0 else t1 from Tree.make_kid hi']
  match i, hi' with
  | 0, _ => exact ⟨a0, c0, ⟨hc 0, hc 1, hc 2, hc 3⟩, h0⟩
  | 1, _ => exact ⟨a1, c1, ⟨hc 4, hc 5, hc 6, hc 7⟩, h1⟩
end Go.Proofs.YtgochgcchkdlmaaDoor

/-
  Contract: only (package ontimelaw15).
-/
namespace Go.Proofs.YtgochgcchkdlmaaDoor
set_option linter.unusedVariables false
set_option linter.unusedSimpArgs false
open Go.RowKit
set_option maxRecDepth 100000
set_option maxHeartbeats 8000000

/-- a row of paths -/
def PathsAt (w : World) (a : Option Addr) (ps : List (List Int)) : Prop := ps.length ≤ 9223372036854775807 ∧ ∀ i, i < ps.length → ∃ b off pa pc, a = some ⟨b, off, none⟩ ∧ w.cell? ⟨b, off + i, none⟩ = some (.slice pa (ps.getD i []).length pc) ∧ IRow w pa (ps.getD i [])
theorem PathsAt.below {w w' : World} {a : Option Addr} {ps : List (List Int)} (h : PathsAt w a ps) (hB : Below w.heap.size w w') : PathsAt w' a ps :=
  ⟨h.1, fun i hi => by obtain ⟨b, off, pa, pc, ha, hc, hr⟩ := h.2 i hi; exact ⟨b, off, pa, pc, ha, (hB.cell (p := ⟨b, off + i, none⟩) (World.block_lt_of_cell? w _ hc)).trans hc, hr.below hB⟩⟩
/-- a fault's task, error and path -/
def tep (f : TFlt) : Int × Int × List Int := (f.task, f.flt.err, f.flt.path)
/-- whether the faults of a program are those -/
def onlyP (p : Prg) (k e : Int) (ps : List (List Int)) : Bool := decide ((checkE p).map tep = ps.map (fun q => (k, e, q)))
theorem FltsAt.four {N g m cap j : Nat} {w : World} {L : List FltP} (h : FltsAt N w (.slice (some ⟨g, 0, none⟩) m cap) L) (hj : j < L.length) :
    w.cell? ⟨g, j * 4, none⟩ = some (.int .i64 L[j].task) ∧ w.cell? ⟨g, j * 4 + 1, none⟩ = some L[j].pv ∧ w.cell? ⟨g, j * 4 + 2, none⟩ = some (.int .i64 L[j].flt.err) ∧ w.cell? ⟨g, j * 4 + 3, none⟩ = some (.string L[j].flt.name) := by
  have key : ∀ (l : List FltP) (j : Nat) (hj : j < l.length) (d : Nat), d < 4 → (l.flatMap FltP.cells)[j * 4 + d]? = (l[j]).cells[d]? := by
    intro l
    induction l with
    | nil => intro j hj; exact absurd hj (Nat.not_lt_zero _)
    | cons f l ih =>
      intro j hj d hd
      rw [List.flatMap_cons]
      cases j with
      | zero => rw [List.getElem?_append_left (by rw [FltP.len]; omega)]; simp
      | succ j =>
        rw [List.getElem?_append_right (by rw [FltP.len]; omega), FltP.len, show (j + 1) * 4 + d - 4 = j * 4 + d by omega, ih j (by simpa using hj) d hd]
        simp
  exact ⟨h.cell ((key L j hj 0 (by omega)).trans rfl), h.cell ((key L j hj 1 (by omega)).trans rfl), h.cell ((key L j hj 2 (by omega)).trans rfl), h.cell ((key L j hj 3 (by omega)).trans rfl)⟩
theorem tep_stop {l : List (Int × Int × List Int)} {m : List (Int × Int × List Int)} {j : Nat} {x y : Int × Int × List Int} (h1 : l[j]? = some x) (h2 : m[j]? = some y) (h : x ≠ y) : decide (l = m) = false :=
  decide_eq_false fun e => h (by rw [e, h2] at h1; injection h1 with h1; exact h1.symm)
theorem tep_next {l m : List (Int × Int × List Int)} {j : Nat} {x : Int × Int × List Int} (h : l.take j = m.take j) (h1 : l[j]? = some x) (h2 : m[j]? = some x) : l.take (j + 1) = m.take (j + 1) := by
  rw [List.take_add_one, List.take_add_one, h, h1, h2]
end Go.Proofs.YtgochgcchkdlmaaDoor

/-
  Contract: swap (package ontimelaw15): a program with one task replaced.
-/
namespace Go.Proofs.YtgochgcchkdlmaaDoor
set_option linter.unusedVariables false
set_option linter.unusedSimpArgs false
open Go.RowKit
set_option maxRecDepth 100000
set_option maxHeartbeats 8000000

/-- the cells of a row that came in, as a list -/
theorem src_cells {w : World} {b off m size : Nat} (h : ∀ j, j < m * size → ∃ u, w.cell? ⟨b, off + j, none⟩ = some u ∧ u.oneCell' = true) :
    ∃ news : List Value, Src w (some ⟨b, off, none⟩) m size news ∧ (∀ j, j < m * size → w.cell? ⟨b, off + j, none⟩ = news[j]?) ∧ ∀ u ∈ news, u.oneCell' = true := by
  have add : ∀ j, (⟨b, off, none⟩ : Addr).add j = ⟨b, off + j, none⟩ := fun j => by
    unfold Addr.add
    by_cases h0 : j = 0 <;> simp [h0]
  have hm : ∀ j, ∃ u : Value, j < m * size → w.cell? ⟨b, off + j, none⟩ = some u ∧ u.oneCell' = true := fun j => by
    by_cases hj : j < m * size
    · obtain ⟨u, hu⟩ := h j hj
      exact ⟨u, fun _ => hu⟩
    · exact ⟨.bool false, fun h => absurd h hj⟩
  obtain ⟨f, hf⟩ := Classical.axiomOfChoice hm
  refine ⟨(List.range (m * size)).map f, ⟨by simp, .inr ⟨_, rfl, fun j u hu => ?_⟩⟩, fun j hj => ?_, fun u hu => ?_⟩
  · rw [List.getElem?_map] at hu
    obtain ⟨k, hk, rfl⟩ := Option.map_eq_some_iff.1 hu
    obtain ⟨hj, rfl⟩ := List.getElem?_eq_some_iff.1 hk
    have hj' : j < m * size := by simpa using hj
    rw [add]
    simp only [List.getElem_range]
    exact (hf j hj').1
  · rw [(hf j hj).1]
    simp [hj]
  · obtain ⟨k, hk, rfl⟩ := List.mem_map.1 hu
    exact (hf k (by simpa using hk)).2
theorem tsk_ones {t : Tsk} {p : TskPlace} {o : Nat} {u : Value} (h : (t.cells p)[o]? = some u) : u.oneCell' = true := by
  unfold Tsk.cells at h
  match o, h with
  | 0, h => cases h; rfl
  | 1, h => cases h; rfl
  | 2, h => cases h; rfl
  | 3, h => cases h; rfl
  | 4, h => cases h; rfl
  | 5, h => cases h; rfl
  | 6, h => cases h; rfl
  | 7, h => cases h; rfl
theorem TsksAt.src {w : World} {b off : Nat} {l : List Tsk} (h : TsksAt w (some ⟨b, off, none⟩) l) :
    ∃ news : List Value, Src w (some ⟨b, off, none⟩) l.length 8 news ∧ (∀ j, j < l.length * 8 → w.cell? ⟨b, off + j, none⟩ = news[j]?) ∧ ∀ u ∈ news, u.oneCell' = true :=
  src_cells fun j hj => by
    obtain ⟨b', off', p, ha, hc, _⟩ := h.2 (j / 8) (by omega)
    cases ha
    have := hc (j % 8) (by omega)
    rw [show off + j / 8 * 8 + j % 8 = off + j by omega] at this
    have hs : j % 8 < ((l.getD (j / 8) Tsk.none).cells p).size := by show j % 8 < 8; omega
    rw [Array.getElem?_eq_getElem hs] at this
    exact ⟨_, this, tsk_ones (Array.getElem?_eq_getElem hs)⟩
/-- eight cells of a row set -/
theorem row_set8 {w : World} {base : Nat} {e : TypeId} {g n cap i : Nat} {xs : List Value} {x0 x1 x2 x3 x4 x5 x6 x7 : Value} (h : w.ownsRow base e 8 (.slice (some ⟨g, 0, none⟩) n cap) n xs) (hi : i < n) :
    ((((((((w.setCell ⟨g, i * 8, none⟩ x0).setCell ⟨g, i * 8 + 1, none⟩ x1).setCell ⟨g, i * 8 + 2, none⟩ x2).setCell ⟨g, i * 8 + 3, none⟩ x3).setCell ⟨g, i * 8 + 4, none⟩ x4).setCell ⟨g, i * 8 + 5, none⟩ x5).setCell ⟨g, i * 8 + 6, none⟩ x6).setCell ⟨g, i * 8 + 7, none⟩ x7).ownsRow base e 8 (.slice (some ⟨g, 0, none⟩) n cap) n
      ((((((((xs.set (i * 8) x0).set (i * 8 + 1) x1).set (i * 8 + 2) x2).set (i * 8 + 3) x3).set (i * 8 + 4) x4).set (i * 8 + 5) x5).set (i * 8 + 6) x6).set (i * 8 + 7) x7) :=
  ownsRow_set (ownsRow_set (ownsRow_set (ownsRow_set (ownsRow_set (ownsRow_set (ownsRow_set (ownsRow_set h (by omega)) (by omega)) (by omega)) (by omega)) (by omega)) (by omega)) (by omega)) (by omega)
theorem set8_get {n i k o : Nat} {xs : List Value} {x0 x1 x2 x3 x4 x5 x6 x7 : Value} (hx : xs.length = n * 8) (hi : i < n) (ho : o < 8) :
    ((((((((xs.set (i * 8) x0).set (i * 8 + 1) x1).set (i * 8 + 2) x2).set (i * 8 + 3) x3).set (i * 8 + 4) x4).set (i * 8 + 5) x5).set (i * 8 + 6) x6).set (i * 8 + 7) x7)[k * 8 + o]? =
      if k = i then (#[x0, x1, x2, x3, x4, x5, x6, x7] : Array Value)[o]? else xs[k * 8 + o]? := by
  by_cases hk : k = i
  · subst hk
    rw [if_pos rfl]
    match o, ho with
    | 0, _ => simp [List.getElem?_set, hx]; omega
    | 1, _ => simp [List.getElem?_set, hx]; omega
    | 2, _ => simp [List.getElem?_set, hx]; omega
    | 3, _ => simp [List.getElem?_set, hx]; omega
    | 4, _ => simp [List.getElem?_set, hx]; omega
    | 5, _ => simp [List.getElem?_set, hx]; omega
    | 6, _ => simp [List.getElem?_set, hx]; omega
    | 7, _ => simp [List.getElem?_set, hx]; omega
  · rw [if_neg hk]
    simp only [List.getElem?_set]
    repeat rw [if_neg (by omega)]
theorem tsk_info : (Tryd.prog.info? 52).map (fun i => (i.zero, i.size, i.bytes)) = some (some (.agg #[.string ⟨#[]⟩, .int .i64 0, .slice none 0 0, .slice none 0 0, .int .u8 0, .int .i64 0, .string ⟨#[]⟩, .slice none 0 0]), 8, 128) := by kernel_rfl
/-- the program with a task replaced -/
def swapP (p : Prg) (i : Nat) (t : Tsk) : Prg := ⟨p.shared, p.tasks.set i t⟩
end Go.Proofs.YtgochgcchkdlmaaDoor

/-
  Plain facts of the faults: programs without faults, a task replaced, a name repeated. No walk here.
-/
namespace Go.Proofs.YtgochgcchkdlmaaDoor
set_option linter.unusedVariables false
set_option linter.unusedSimpArgs false
open Go.RowKit

theorem declF_append (known : ByteArray → Bool) : ∀ (l m so : List ByteArray), declF known so (l ++ m) = declF known so l ++ declF known (so ++ l) m
  | [], m, so => by simp [declF]
  | x :: l, m, so => by
    rw [List.cons_append, declF, declF, declF_append known l m (so ++ [x]), List.append_assoc, List.append_assoc]
    rfl
theorem declF_congr {known known' : ByteArray → Bool} (hk : ∀ s, known s = known' s) : ∀ (l so so' : List ByteArray), (∀ s, memB so s = memB so' s) → declF known so l = declF known' so' l
  | [], _, _, _ => rfl
  | x :: l, so, so', h => by
    rw [declF, declF, hk, h, declF_congr hk l (so ++ [x]) (so' ++ [x]) (fun s => by rw [memB_append, memB_append, h])]
/-- a name that is there already turns no question -/
theorem memB_again {l : List ByteArray} {x : ByteArray} (h : x ∈ l) (s : ByteArray) : memB (l ++ [x]) s = memB l s := by
  rw [memB_snoc]
  by_cases e : x = s
  · subst e
    rw [memB_iff.2 h]
    rfl
  · simp [e]
theorem memB_mid {so l m : List ByteArray} {x : ByteArray} (h : x ∈ l) (s : ByteArray) : memB (so ++ (l ++ [x]) ++ m) s = memB (so ++ l ++ m) s := by
  rw [memB_append, memB_append, memB_again h, memB_append, memB_append]
/-- the same names, the same faults -/
theorem faultN_congr {d d' : Nms} (h1 : ∀ s, memB d.shared s = memB d'.shared s) (h2 : ∀ s, memB d.scalars s = memB d'.scalars s) (h3 : ∀ s, memB d.arrays s = memB d'.arrays s) (k : Int) (n : ByteArray) (pl : Bool) (lo lk : List ByteArray) :
    faultN d k n pl lo lk = faultN d' k n pl lo lk := by
  unfold faultN
  rw [h1, h2, h3]
theorem faultsT_congr {d d' : Nms} (h1 : ∀ s, memB d.shared s = memB d'.shared s) (h2 : ∀ s, memB d.scalars s = memB d'.scalars s) (h3 : ∀ s, memB d.arrays s = memB d'.arrays s) : ∀ (t : Tree) (path : List Int) (pl : Bool) (lo lk : List ByteArray),
    faultsT d t path pl lo lk = faultsT d' t path pl lo lk := by
  intro t
  induction t using Tree.ind with
  | h t ih =>
    intro path pl lo lk
    rw [faultsT_eq, faultsT_eq]
    unfold ownF
    rw [faultN_congr h1 h2 h3]
    exact congrArg _ (concatTo_congr fun i hi => ih i hi _ _ _ _)
theorem tasksF_nil {shared : List ByteArray} : ∀ {l : List Tsk} {so : List ByteArray} {i : Nat}, tasksF shared so i l = [] → ∀ j (h : j < l.length), memB (so ++ (l.take j).map (·.name)) l[j].name = false ∧ taskF shared l[j] = []
  | t :: l, so, i, h, j, hj => by
    rw [tasksF, List.append_eq_nil_iff, List.map_eq_nil_iff, List.append_eq_nil_iff] at h
    obtain ⟨⟨h1, h2⟩, h3⟩ := h
    cases j with
    | zero =>
      refine ⟨?_, h2⟩
      cases hb : memB so t.name with
      | false => simpa using hb
      | true => rw [hb] at h1; cases h1
    | succ j =>
      have := tasksF_nil h3 j (by simpa using hj)
      simpa using this
/-- one task replaced in a program without faults -/
theorem tasksF_set {shared : List ByteArray} {t' : Tsk} : ∀ {l : List Tsk} {so : List ByteArray} {i j : Nat}, tasksF shared so i l = [] → (h : j < l.length) → t'.name = l[j].name → tasksF shared so i (l.set j t') = (taskF shared t').map (TFlt.mk ((i + j : Nat) : Int))
  | t :: l, so, i, 0, h, hj, hn => by
    rw [tasksF, List.append_eq_nil_iff, List.map_eq_nil_iff, List.append_eq_nil_iff] at h
    obtain ⟨⟨h1, _⟩, h3⟩ := h
    have hn' : t'.name = t.name := hn
    rw [List.set_cons_zero, tasksF, hn', h1, h3]
    simp
  | t :: l, so, i, j + 1, h, hj, hn => by
    rw [tasksF, List.append_eq_nil_iff, List.map_eq_nil_iff, List.append_eq_nil_iff] at h
    obtain ⟨⟨h1, h2⟩, h3⟩ := h
    rw [List.set_cons_succ, tasksF, h1, h2, tasksF_set h3 (by simpa using hj) (by simpa using hn), show i + 1 + j = i + (j + 1) by omega]
    rfl
theorem okP_parts {p : Prg} (h : okP p = true) : prgOk p = true ∧ declF (fun _ => false) [] (p.shared.map (·.name)) = [] ∧ tasksF (p.shared.map (·.name)) [] 0 p.tasks = [] := by
  unfold okP at h
  rw [Bool.and_eq_true, List.isEmpty_iff] at h
  obtain ⟨h1, h2⟩ := h
  unfold checkE at h2
  rw [if_pos h1] at h2
  unfold checkF at h2
  rw [List.append_eq_nil_iff, List.map_eq_nil_iff] at h2
  exact ⟨h1, h2⟩
/-- the faults of a program without faults, one task replaced by a valid one of the same name -/
theorem checkE_swap {p : Prg} {i : Nat} {t : Tsk} (h : okP p = true) (hi : i < p.tasks.length) (hn : t.name = (p.tasks.getD i Tsk.none).name) (ht : tskOk t = true) : checkE (swapP p i t) = (taskF (p.shared.map (·.name)) t).map (TFlt.mk (i : Int)) := by
  obtain ⟨h1, h2, h3⟩ := okP_parts h
  have hv : prgOk (swapP p i t) = true := by
    unfold prgOk at h1 ⊢
    simp only [Bool.and_eq_true, decide_eq_true_eq, List.all_eq_true] at h1 ⊢
    refine ⟨h1.1, by show (p.tasks.set i t).length ≤ 8; rw [List.length_set]; exact h1.2.1, h1.2.2.1, fun x hx => ?_⟩
    rcases List.mem_or_eq_of_mem_set hx with hx | rfl
    · exact h1.2.2.2 x hx
    · exact ht
  unfold checkE
  rw [if_pos hv]
  unfold checkF
  show (declF _ _ (p.shared.map (·.name))).map _ ++ tasksF (p.shared.map (·.name)) _ _ (p.tasks.set i t) = _
  rw [h2, tasksF_set h3 hi (by rw [hn]; simp [hi])]
  simp
end Go.Proofs.YtgochgcchkdlmaaDoor

/-
  Plain law of CheckTwice: a declaration that is repeated is the only fault. No walk here.
-/
namespace Go.Proofs.YtgochgcchkdlmaaDoor
set_option linter.unusedVariables false
set_option linter.unusedSimpArgs false
open Go.RowKit

theorem declF_known {known : ByteArray → Bool} {x : ByteArray} {so m : List ByteArray} (h : (known x || memB so x) = true) : declF known so (x :: m) = ⟨[], 8, x⟩ :: declF known (so ++ [x]) m := by
  rw [declF, if_pos h]
  rfl
theorem taskF_nil {shared : List ByteArray} {t : Tsk} (h : taskF shared t = []) : declF (memB shared) [] (t.vars ++ t.arrays.map (·.name)) = [] ∧ faultsT ⟨shared, t.vars, t.arrays.map (·.name)⟩ t.body [] false [] [] = [] := by
  unfold taskF at h
  exact List.append_eq_nil_iff.1 h
/-- a variable repeated -/
def varsT (t : Tsk) (v : ByteArray) : Tsk := ⟨t.name, t.period, t.vars ++ [v], t.arrays, t.body⟩
def arrsT (t : Tsk) (x : Arr) : Tsk := ⟨t.name, t.period, t.vars, t.arrays ++ [x], t.body⟩
theorem taskF_vars {shared : List ByteArray} {t : Tsk} {v : ByteArray} (h : taskF shared t = []) (hv : v ∈ t.vars) : taskF shared (varsT t v) = [⟨[], 8, v⟩] := by
  obtain ⟨h1, h2⟩ := taskF_nil h
  rw [declF_append, List.append_eq_nil_iff] at h1
  obtain ⟨h1, h3⟩ := h1
  unfold taskF
  show declF (memB shared) [] ((t.vars ++ [v]) ++ t.arrays.map (·.name)) ++ faultsT ⟨shared, t.vars ++ [v], t.arrays.map (·.name)⟩ t.body [] false [] [] = _
  rw [List.append_assoc, declF_append, h1, List.nil_append, List.nil_append, List.singleton_append, declF_known (by rw [memB_iff.2 hv, Bool.or_true])]
  rw [faultsT_congr (d := ⟨shared, t.vars ++ [v], t.arrays.map (fun x => x.name)⟩) (d' := ⟨shared, t.vars, t.arrays.map (fun x => x.name)⟩) (fun _ => rfl) (fun s => memB_again hv s) (fun _ => rfl), h2]
  rw [declF_congr (known' := memB shared) (fun _ => rfl) _ _ ([] ++ t.vars) (fun s => by rw [List.nil_append]; exact memB_again hv s), h3]
  rfl
theorem taskF_arrs {shared : List ByteArray} {t : Tsk} {x : Arr} (h : taskF shared t = []) (hx : x ∈ t.arrays) : taskF shared (arrsT t x) = [⟨[], 8, x.name⟩] := by
  obtain ⟨h1, h2⟩ := taskF_nil h
  have hm : x.name ∈ t.arrays.map (·.name) := List.mem_map.2 ⟨x, hx, rfl⟩
  unfold taskF
  show declF (memB shared) [] (t.vars ++ (t.arrays ++ [x]).map (·.name)) ++ faultsT ⟨shared, t.vars, (t.arrays ++ [x]).map (·.name)⟩ t.body [] false [] [] = _
  rw [List.map_append, List.map_cons, List.map_nil, ← List.append_assoc, declF_append, h1, List.nil_append, List.nil_append, declF_known (by rw [memB_append, memB_iff.2 hm, Bool.or_true, Bool.or_true])]
  rw [faultsT_congr (d := ⟨shared, t.vars, t.arrays.map (fun x => x.name) ++ [x.name]⟩) (d' := ⟨shared, t.vars, t.arrays.map (fun x => x.name)⟩) (fun _ => rfl) (fun _ => rfl) (fun s => memB_again hm s), h2]
  rfl
theorem taskF_shared {l l' : List ByteArray} (h : ∀ s, memB l s = memB l' s) (t : Tsk) : taskF l t = taskF l' t := by
  unfold taskF
  rw [declF_congr h _ [] [] (fun _ => rfl), faultsT_congr (d := ⟨l, t.vars, t.arrays.map (fun x => x.name)⟩) (d' := ⟨l', t.vars, t.arrays.map (fun x => x.name)⟩) h (fun _ => rfl) (fun _ => rfl)]
theorem tasksF_shared {l l' : List ByteArray} (h : ∀ s, memB l s = memB l' s) : ∀ (ts : List Tsk) (so : List ByteArray) (i : Nat), tasksF l so i ts = tasksF l' so i ts
  | [], _, _ => rfl
  | t :: ts, so, i => by rw [tasksF, tasksF, taskF_shared h, tasksF_shared h ts]
theorem varsT_ok {t : Tsk} {v : ByteArray} (h : tskOk t = true) (hv : v ∈ t.vars) (hl : t.vars.length < 12) : tskOk (varsT t v) = true := by
  unfold tskOk at h ⊢
  simp only [Bool.and_eq_true, decide_eq_true_eq, List.all_eq_true] at h ⊢
  obtain ⟨a1, a2, a3, a4, a5, a6, a7, a8⟩ := h
  refine ⟨a1, a2, a3, ?_, a5, a6, fun x hx => ?_, a8⟩
  · show (t.vars ++ [v]).length ≤ 12
    simp; omega
  · rcases List.mem_append.1 hx with hx | hx
    · exact a7 x hx
    · obtain rfl := List.mem_singleton.1 hx
      exact a7 x hv
theorem arrsT_ok {t : Tsk} {x : Arr} (h : tskOk t = true) (hx : x ∈ t.arrays) (hl : t.arrays.length < 4) : tskOk (arrsT t x) = true := by
  unfold tskOk at h ⊢
  simp only [Bool.and_eq_true, decide_eq_true_eq, List.all_eq_true] at h ⊢
  obtain ⟨a1, a2, a3, a4, a5, a6, a7, a8⟩ := h
  refine ⟨a1, a2, a3, a4, ?_, fun y hy => ?_, a7, a8⟩
  · show (t.arrays ++ [x]).length ≤ 4
    simp; omega
  · rcases List.mem_append.1 hy with hy | hy
    · exact a6 y hy
    · obtain rfl := List.mem_singleton.1 hy
      exact a6 y hx
theorem onlyP_one {p : Prg} {k e : Int} {s : ByteArray} (h : checkE p = [⟨k, ⟨[], e, s⟩⟩]) : onlyP p k e [[]] = true := by
  unfold onlyP
  rw [h]
  exact decide_eq_true rfl
theorem task_in {p : Prg} {i : Nat} (h : okP p = true) (hi : i < p.tasks.length) : memB ((p.tasks.take i).map (·.name)) (p.tasks.getD i Tsk.none).name = false ∧ taskF (p.shared.map (·.name)) (p.tasks.getD i Tsk.none) = [] := by
  obtain ⟨_, _, h3⟩ := okP_parts h
  have := tasksF_nil h3 i hi
  rw [List.nil_append] at this
  rw [show p.tasks.getD i Tsk.none = p.tasks[i] by simp [hi]]
  exact this
theorem twice_vars {p : Prg} {i : Nat} {v : ByteArray} (h : okP p = true) (hi : i < p.tasks.length) (hv : v ∈ (p.tasks.getD i Tsk.none).vars) (hl : (p.tasks.getD i Tsk.none).vars.length < 12) : onlyP (swapP p i (varsT (p.tasks.getD i Tsk.none) v)) (i : Int) 8 [[]] = true := by
  refine onlyP_one (s := v) ?_
  rw [checkE_swap (t := varsT (p.tasks.getD i Tsk.none) v) h hi rfl (varsT_ok ((prgOk_le (okP_parts h).1).2.2 i hi) hv hl), taskF_vars (task_in h hi).2 hv]
  rfl
theorem twice_arrs {p : Prg} {i : Nat} {x : Arr} (h : okP p = true) (hi : i < p.tasks.length) (hx : x ∈ (p.tasks.getD i Tsk.none).arrays) (hl : (p.tasks.getD i Tsk.none).arrays.length < 4) : onlyP (swapP p i (arrsT (p.tasks.getD i Tsk.none) x)) (i : Int) 8 [[]] = true := by
  refine onlyP_one (s := x.name) ?_
  rw [checkE_swap (t := arrsT (p.tasks.getD i Tsk.none) x) h hi rfl (arrsT_ok ((prgOk_le (okP_parts h).1).2.2 i hi) hx hl), taskF_arrs (task_in h hi).2 hx]
  rfl
theorem twice_shared {p : Prg} {x : Arr} (h : okP p = true) (hx : x ∈ p.shared) (hl : p.shared.length < 4) : onlyP ⟨p.shared ++ [x], p.tasks⟩ (-1) 8 [[]] = true := by
  refine onlyP_one (s := x.name) ?_
  obtain ⟨h1, h2, h3⟩ := okP_parts h
  have hm : x.name ∈ p.shared.map (·.name) := List.mem_map.2 ⟨x, hx, rfl⟩
  have hv : prgOk ⟨p.shared ++ [x], p.tasks⟩ = true := by
    unfold prgOk at h1 ⊢
    simp only [Bool.and_eq_true, decide_eq_true_eq, List.all_eq_true] at h1 ⊢
    refine ⟨?_, h1.2.1, fun y hy => ?_, h1.2.2.2⟩
    · show (p.shared ++ [x]).length ≤ 4
      simp; omega
    · rcases List.mem_append.1 hy with hy | hy
      · exact h1.2.2.1 y hy
      · obtain rfl := List.mem_singleton.1 hy
        exact h1.2.2.1 y hx
  unfold checkE
  rw [if_pos hv]
  unfold checkF
  show (declF _ _ ((p.shared ++ [x]).map (·.name))).map _ ++ tasksF ((p.shared ++ [x]).map (·.name)) _ _ p.tasks = _
  rw [List.map_append, List.map_cons, List.map_nil, declF_append, h2, List.nil_append, List.nil_append, declF_known (by rw [memB_iff.2 hm, Bool.false_or])]
  rw [tasksF_shared (fun s => memB_again hm s), h3]
  rfl
theorem twice_task {p : Prg} {i : Nat} (h : okP p = true) (hi : i < p.tasks.length) (hl : p.tasks.length < 8) : onlyP ⟨p.shared, p.tasks ++ [p.tasks.getD i Tsk.none]⟩ (p.tasks.length : Int) 8 [[]] = true := by
  refine onlyP_one (s := (p.tasks.getD i Tsk.none).name) ?_
  obtain ⟨h1, h2, h3⟩ := okP_parts h
  have hm : p.tasks.getD i Tsk.none ∈ p.tasks := by simp [hi]
  have hv : prgOk ⟨p.shared, p.tasks ++ [p.tasks.getD i Tsk.none]⟩ = true := by
    unfold prgOk at h1 ⊢
    simp only [Bool.and_eq_true, decide_eq_true_eq, List.all_eq_true] at h1 ⊢
    refine ⟨h1.1, ?_, h1.2.2.1, fun y hy => ?_⟩
    · show (p.tasks ++ [_]).length ≤ 8
      simp; omega
    · rcases List.mem_append.1 hy with hy | hy
      · exact h1.2.2.2 y hy
      · obtain rfl := List.mem_singleton.1 hy
        exact h1.2.2.2 _ hm
  unfold checkE
  rw [if_pos hv]
  unfold checkF
  show (declF _ _ (p.shared.map (·.name))).map _ ++ tasksF (p.shared.map (·.name)) [] 0 (p.tasks ++ [p.tasks.getD i Tsk.none]) = _
  rw [h2, tasksF_snoc, h3, List.nil_append, (task_in h hi).2, if_pos (by rw [memB_iff]; exact List.mem_map.2 ⟨_, hm, rfl⟩)]
  simp
end Go.Proofs.YtgochgcchkdlmaaDoor
