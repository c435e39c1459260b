/-
  Mg3: several texts in one (AppendSrc, LiveBits, LivePlain).
-/
import Derived.Maps.AppendAt
import Derived.Deep.AppendLies
import Derived.RegionTactic
import Derived.OwnWalk
import Derived.WalkKit
import Derived.Test.YteknhnnlhhgppaaDoorMg1
import Derived.Laws.Entries
/-
  append of a row that came in (nil, empty or not) onto a row of the call's own: where the new row lies. No program is named here.
-/
namespace Go.Proofs.YteknhnnlhhgppaaDoor
set_option linter.unusedVariables false
set_option linter.unusedSimpArgs false
open Go.RowKit

/-- a slice's cells, read: m elements of some cells each -/
def Src (w : World) (A : Option Addr) (m size : Nat) (news : List Value) : Prop :=
  news.length = m * size ∧ (m = 0 ∨ ∃ ad, A = some ad ∧ ∀ j u, news[j]? = some u → w.cell? (ad.add j) = some u)
theorem run_append_src {P : Program} (w : World) (base : Nat) (t ty e : TypeId) (i : TypeInfo) (z : Value) (size bytes : Nat) (ht : P.underlying t = some (.slice e)) (hi : P.info? e = some i) (hz : i.zero = some z)
    (hsize : i.size = size) (hby : i.bytes = bytes) (hzs : z.cells.size = size) (hsz : 0 < size) (v : Value) (n : Nat) (xs : List Value) (hown : w.ownsRow base e size v n xs)
    (A : Option Addr) (m c : Nat) (news : List Value) (hr : Src w A m size news) (h1 : ∀ u ∈ news, u.oneCell' = true) (h63 : n + m ≤ maxLen) (hbytes : (n + m) * bytes ≤ 140737488355328) (hbase : base ≤ w.heap.size) :
    ∃ v' w', (Builtin.append_ #[t, t] ty #[v, .slice A m c]).run P w = .ok v' w' ∧ w'.ownsRow base e size v' (n + m) (xs ++ news) ∧ w.grownBy w' v.ownBlock ∧ (v'.ownBlock = v.ownBlock ∨ v'.ownBlock = some w.heap.size) := by
  cases A with
  | none =>
    have hm : m = 0 := by
      rcases hr.2 with h | ⟨ad, h, _⟩
      · exact h
      · cases h
    subst hm
    have hn : news = [] := List.length_eq_zero_iff.1 (by rw [hr.1]; omega)
    subst hn
    refine ⟨v, w, ?_, by simpa using hown, World.grownBy.refl w _, .inl rfl⟩
    rcases hown.2 with ⟨rfl, rfl⟩ | ⟨g, cap, cur, rfl, _, _, hnc, _⟩
    · simp [Builtin.append_, run_underlying ht, sizeOf, typeInfo, hi, Builtin.lenOf, Builtin.firstCells]
    · simp [Builtin.append_, run_underlying ht, sizeOf, typeInfo, hi, Builtin.lenOf, Builtin.firstCells, hnc, storeCells]
  | some ad =>
    have hcells : ∀ j u, news[j]? = some u → w.cell? (ad.add j) = some u := by
      rcases hr.2 with h | ⟨ad', h, hc⟩
      · intro j u hu
        have hn : news = [] := List.length_eq_zero_iff.1 (by rw [hr.1, h]; omega)
        subst hn
        cases hu
      · cases h
        exact hc
    obtain ⟨v', w', r1, r2, r3, _, r5⟩ := run_append_own_at (P := P) w base t ty e i z size bytes ht hi hz hsize hby hzs hsz v n xs hown ad m c news hr.1 hcells h1 h63 hbytes hbase
    exact ⟨v', w', r1, r2, r3, r5⟩
theorem wpList_append_src {P : Program} (w : World) {ops : Array Oper} {rest : List Oper} {o : Oper} {a : Act} {Q : Exit → Act → World → Prop}
    (hg : o.guard = none) (s x : Operand) (t : TypeId) (hop : o.op = Op.call { callee := Callee.builtin Builtin.append, args := #[s, x], argTypes := #[t, t] })
    (base : Nat) (e : TypeId) (i : TypeInfo) (z : Value) (size bytes : Nat) (ht : P.underlying t = some (.slice e)) (hi : P.info? e = some i) (hz : i.zero = some z)
    (hsize : i.size = size) (hby : i.bytes = bytes) (hzs : z.cells.size = size) (hsz : 0 < size) (v : Value) (n : Nat) (xs : List Value) (hs : a.eval s = v) (hown : w.ownsRow base e size v n xs)
    (A : Option Addr) (m c : Nat) (news : List Value) (hx : a.eval x = .slice A m c) (hr : Src w A m size news) (h1 : ∀ u ∈ news, u.oneCell' = true) (h63 : n + m ≤ maxLen) (hbytes : (n + m) * bytes ≤ 140737488355328) (hbase : base ≤ w.heap.size)
    (hK : ∀ v' w', w'.ownsRow base e size v' (n + m) (xs ++ news) → w.grownBy w' v.ownBlock → (v'.ownBlock = v.ownBlock ∨ v'.ownBlock = some w.heap.size) → wpList P ops Q rest (a.put o.dst v') w') :
    wpList P ops Q (o :: rest) a w := by
  refine wpList_plain hg fun K' hK' => ?_
  obtain ⟨v', w', hrun, r1, r2, r3⟩ := run_append_src (P := P) w base t o.type e i z size bytes ht hi hz hsize hby hzs hsz v n xs hown A m c news hr h1 h63 hbytes hbase
  unfold Oper.wp
  simp [execOp, hop, resolve, invoke, builtin, hs, hx, hrun, Result.andThen]
  exact hK' _ _ (hK v' w' r1 r2 r3)
theorem step_append_src {P : Program} (w : World) {ops : Array Oper} {o : Oper} {a : Act} {K : Act → World → Prop} {Q : Exit → Act → World → Prop} {E : Prop}
    (hg : o.guard = none) (s x : Operand) (t : TypeId) (hop : o.op = Op.call { callee := Callee.builtin Builtin.append, args := #[s, x], argTypes := #[t, t] })
    (base : Nat) (e : TypeId) (i : TypeInfo) (z : Value) (size bytes : Nat) (ht : P.underlying t = some (.slice e)) (hi : P.info? e = some i) (hz : i.zero = some z)
    (hsize : i.size = size) (hby : i.bytes = bytes) (hzs : z.cells.size = size) (hsz : 0 < size) (v : Value) (n : Nat) (xs : List Value) (hs : a.eval s = v) (hown : w.ownsRow base e size v n xs)
    (A : Option Addr) (m c : Nat) (news : List Value) (hx : a.eval x = .slice A m c) (hr : Src w A m size news) (h1 : ∀ u ∈ news, u.oneCell' = true) (h63 : n + m ≤ maxLen) (hbytes : (n + m) * bytes ≤ 140737488355328) (hbase : base ≤ w.heap.size)
    (hK : ∀ v' w', w'.ownsRow base e size v' (n + m) (xs ++ news) → w.grownBy w' v.ownBlock → (v'.ownBlock = v.ownBlock ∨ v'.ownBlock = some w.heap.size) → K (a.put o.dst v') w') :
    if Region.wanted o (yielded ops a.tmps) = true then Oper.wp P o a w K Q else E := by
  have hw : Region.wanted o (yielded ops a.tmps) = true := by simp [Region.wanted, hg]
  rw [if_pos hw]
  obtain ⟨v', w', hrun, r1, r2, r3⟩ := run_append_src (P := P) w base t o.type e i z size bytes ht hi hz hsize hby hzs hsz v n xs hown A m c news hr h1 h63 hbytes hbase
  unfold Oper.wp
  simp [execOp, hop, resolve, invoke, builtin, hs, hx, hrun, Result.andThen]
  exact hK v' w' r1 r2 r3
/-- a cell of a row is set -/
theorem ownsRow_set {w : World} {base : Nat} {e : TypeId} {size g n cap j : Nat} {xs : List Value} {u : Value} (h : w.ownsRow base e size (.slice (some ⟨g, 0, none⟩) n cap) n xs) (_hj : j < n * size) : (w.setCell ⟨g, j, none⟩ u).ownsRow base e size (.slice (some ⟨g, 0, none⟩) n cap) n (xs.set j u) := by
  obtain ⟨h1, h2⟩ := h
  refine ⟨by simpa using h1, ?_⟩
  rcases h2 with ⟨h2, _⟩ | ⟨g', cap', cur, hv, hb, hc, hn, hm, hs, hx⟩
  · cases h2
  · cases hv
    refine .inr ⟨g, cap, cur.setIfInBounds j u, rfl, hb, ?_, hn, hm, by simpa using hs, ?_⟩
    · simp [World.setCell, Array.getElem?_modify, hc]
    · rw [Array.toList_setIfInBounds, ← hx, List.take_set]
end Go.Proofs.YteknhnnlhhgppaaDoor

/-
  Plain: a set of registers as the bits of a number.
-/
namespace Go.Proofs.YteknhnnlhhgppaaDoor
set_option linter.unusedVariables false
set_option linter.unusedSimpArgs false
open Go.RowKit
set_option maxRecDepth 100000

theorem wrap_u64 (n : Nat) (h : n < 2 ^ 64) : IntKind.u64.wrap (n : Int) = (n : Int) := by
  unfold IntKind.wrap
  simp only [IntKind.bits, IntKind.signed]
  simp
  omega
theorem ofInt_u64 (n : Nat) : BitVec.ofInt 64 (n : Int) = BitVec.ofNat 64 n := by
  apply BitVec.eq_of_toNat_eq
  simp [BitVec.toNat_ofInt, BitVec.toNat_ofNat]
theorem bits_or (s t : Nat) (hs : s < 2 ^ 64) (ht : t < 2 ^ 64) : bits .or .u64 (s : Int) (t : Int) = ((s ||| t : Nat) : Int) := by
  show IntKind.u64.wrap ((BitVec.ofInt 64 (s : Int) ||| BitVec.ofInt 64 (t : Int)).toNat : Int) = _
  rw [ofInt_u64, ofInt_u64, wrap_u64 _ (BitVec.isLt _), BitVec.toNat_or, BitVec.toNat_ofNat, BitVec.toNat_ofNat, Nat.mod_eq_of_lt hs, Nat.mod_eq_of_lt ht]
theorem bits_and (s t : Nat) (hs : s < 2 ^ 64) (ht : t < 2 ^ 64) : bits .and .u64 (s : Int) (t : Int) = ((s &&& t : Nat) : Int) := by
  show IntKind.u64.wrap ((BitVec.ofInt 64 (s : Int) &&& BitVec.ofInt 64 (t : Int)).toNat : Int) = _
  rw [ofInt_u64, ofInt_u64, wrap_u64 _ (BitVec.isLt _), BitVec.toNat_and, BitVec.toNat_ofNat, BitVec.toNat_ofNat, Nat.mod_eq_of_lt hs, Nat.mod_eq_of_lt ht]
/-- s without r -/
def remB (s r : Nat) : Nat := s &&& (2 ^ 64 - (2 ^ r + 1))
def addB (s r : Nat) : Nat := s ||| 2 ^ r
theorem bits_not (s t : Nat) (hs : s < 2 ^ 64) (ht : t < 2 ^ 64) : bits .andNot .u64 (s : Int) (t : Int) = ((s &&& (2 ^ 64 - (t + 1)) : Nat) : Int) := by
  show IntKind.u64.wrap ((BitVec.ofInt 64 (s : Int) &&& ~~~ BitVec.ofInt 64 (t : Int)).toNat : Int) = _
  rw [ofInt_u64, ofInt_u64, wrap_u64 _ (BitVec.isLt _), BitVec.toNat_and, BitVec.toNat_not, BitVec.toNat_ofNat, BitVec.toNat_ofNat, Nat.mod_eq_of_lt hs, Nat.mod_eq_of_lt ht]
  congr 2
  omega
theorem pow_lt64 {r : Nat} (h : r < 12) : 2 ^ r < 2 ^ 64 := Nat.pow_lt_pow_right (by omega) (by omega)
theorem wrap_pow {r : Nat} (h : r < 12) : IntKind.u64.wrap ((2 : Int) ^ r) = ((2 ^ r : Nat) : Int) := by
  have := wrap_u64 (2 ^ r) (pow_lt64 h)
  rw [← this]
  congr 1
theorem addB_bit (s r j : Nat) : (addB s r).testBit j = (s.testBit j || decide (j = r)) := by
  unfold addB
  rw [Nat.testBit_or, Nat.testBit_two_pow]
  congr 1
  simp [eq_comm]
theorem remB_bit (s : Nat) {r : Nat} (hs : s < 2 ^ 12) (hr : r < 12) (j : Nat) : (remB s r).testBit j = (s.testBit j && !decide (j = r)) := by
  unfold remB
  rw [Nat.testBit_and, Nat.testBit_two_pow_sub_succ (pow_lt64 hr), Nat.testBit_two_pow]
  by_cases hj : j < 64
  · simp [hj, eq_comm]
  · have : s.testBit j = false := Nat.testBit_lt_two_pow (Nat.lt_of_lt_of_le hs (Nat.pow_le_pow_right (by omega) (by omega)))
    simp [this]
theorem lt_bits {s R : Nat} (h : ∀ j, s.testBit j = true → j < R) : s < 2 ^ R := by
  apply Nat.lt_pow_two_of_testBit
  intro i hi
  cases hb : s.testBit i with
  | false => rfl
  | true => have := h i hb; omega
theorem bit_lt {s R j : Nat} (h : s < 2 ^ R) (hj : s.testBit j = true) : j < R := by
  apply Classical.byContradiction
  intro hn
  have : s.testBit j = false := Nat.testBit_lt_two_pow (Nat.lt_of_lt_of_le h (Nat.pow_le_pow_right (by omega) (by omega)))
  rw [this] at hj; cases hj
theorem addB_lt {s r R : Nat} (hs : s < 2 ^ R) (hr : r < R) : addB s r < 2 ^ R := by
  apply lt_bits
  intro j hj
  rw [addB_bit, Bool.or_eq_true] at hj
  rcases hj with hj | hj
  · exact bit_lt hs hj
  · have : j = r := by simpa using hj
    omega
theorem remB_lt {s r R : Nat} (hs : s < 2 ^ R) : remB s r < 2 ^ R := Nat.lt_of_le_of_lt Nat.and_le_left hs
theorem or_lt {s t R : Nat} (hs : s < 2 ^ R) (ht : t < 2 ^ R) : s ||| t < 2 ^ R := Nat.or_lt_two_pow hs ht
/-- the registers of a set, ascending -/
def listB (s : Nat) : List Int := ((List.range 12).filter (fun j => s.testBit j)).map Int.ofNat
/-- the lowest register of a set -/
def tzB (s : Nat) : Nat := ((List.range 12).find? (fun j => s.testBit j)).getD 0
theorem list_all : ((List.range 4096).all fun s => s == 0 || (listB s == (tzB s : Int) :: listB (s &&& (s - 1)))) = true := by kernel_rfl
theorem list_step {s : Nat} (h : s < 4096) (h0 : s ≠ 0) : listB s = (tzB s : Int) :: listB (s &&& (s - 1)) := by
  have := List.all_eq_true.1 list_all s (List.mem_range.2 h)
  rw [Bool.or_eq_true] at this
  rcases this with h | h
  · exact absurd (by simpa using h) h0
  · exact eq_of_beq h
theorem list_len (s : Nat) : (listB s).length ≤ 12 := by
  unfold listB
  rw [List.length_map]
  exact Nat.le_trans (List.length_filter_le _ _) (by simp)
theorem mem_list {s : Nat} {j : Nat} (hs : s < 4096) : ((j : Int) ∈ listB s) ↔ s.testBit j = true := by
  unfold listB
  rw [List.mem_map]
  constructor
  · rintro ⟨k, hk, e⟩
    have : k = j := by exact Int.ofNat.inj e
    subst this
    exact (List.mem_filter.1 hk).2
  · intro h
    exact ⟨j, List.mem_filter.2 ⟨List.mem_range.2 (bit_lt (R := 12) hs h), h⟩, rfl⟩
theorem list_in {o R : Nat} (h : o < 2 ^ R) {r : Int} (hr : r ∈ listB o) : 0 ≤ r ∧ r < (R : Int) := by
  unfold listB at hr
  obtain ⟨k, hk, rfl⟩ := List.mem_map.1 hr
  have hb := bit_lt h (List.mem_filter.1 hk).2
  exact ⟨Int.natCast_nonneg k, by show (k : Int) < R; omega⟩
end Go.Proofs.YteknhnnlhhgppaaDoor

/-
  Plain: what is live, as the layer's code computes it.
-/
namespace Go.Proofs.YteknhnnlhhgppaaDoor
set_option linter.unusedVariables false
set_option linter.unusedSimpArgs false
open Go.RowKit
set_option maxRecDepth 100000

def useB (l : List Int) (s : Nat) : Nat := l.foldl (fun s r => addB s r.toNat) s
def defB (i : Ins) (s : Nat) : Nat := match i.defines with | some d => remB s d.toNat | none => s
def backB (i : Ins) (s : Nat) : Nat := useB i.uses (defB i s)
def lastB (b : Blk) (s : Nat) : Nat := if b.kind = 2 then addB s b.x.toNat else s
/-- back over the instructions from the k-th on -/
def blkB (b : Blk) (k : Nat) (s : Nat) : Nat := (b.code.drop k).foldr backB (lastB b s)
/-- the registers of an instruction exist -/
structure InsR (R : Nat) (i : Ins) : Prop where
  use : ∀ r ∈ i.uses, 0 ≤ r ∧ r < (R : Int)
  dfn : ∀ d, i.defines = some d → 0 ≤ d ∧ d < (R : Int)
def EndR (R : Nat) (b : Blk) : Prop := b.kind = 2 → 0 ≤ b.x ∧ b.x < (R : Int)
structure BlkR (R n : Nat) (b : Blk) : Prop where
  ins : ∀ i ∈ b.code, 1 ≤ i.op ∧ i.op ≤ 16 ∧ InsR R i
  kind : 1 ≤ b.kind ∧ b.kind ≤ 3
  fin : EndR R b
  succ : ∀ t ∈ b.succ, 0 ≤ t ∧ t < (n : Int)
/-- a function that is well-formed, of few registers -/
structure FormR (f : Fn) (R : Nat) : Prop where
  regs : f.regs = (R : Int)
  few : R ≤ 12
  one : 0 < f.blocks.length
  blk : ∀ b ∈ f.blocks, BlkR R f.blocks.length b
theorem useB_lt {R : Nat} : ∀ (l : List Int) {s : Nat}, (∀ r ∈ l, 0 ≤ r ∧ r < (R : Int)) → s < 2 ^ R → useB l s < 2 ^ R
  | [], s, _, hs => hs
  | r :: l, s, h, hs => useB_lt l (fun q hq => h q (List.mem_cons_of_mem _ hq)) (addB_lt hs (by have := h r (List.mem_cons_self ..); omega))
theorem defB_lt {R s : Nat} {i : Ins} (hs : s < 2 ^ R) : defB i s < 2 ^ R := by
  unfold defB
  split
  · exact remB_lt hs
  · exact hs
theorem backB_lt {R s : Nat} {i : Ins} (h : InsR R i) (hs : s < 2 ^ R) : backB i s < 2 ^ R := useB_lt _ h.use (defB_lt hs)
theorem lastB_lt {R s : Nat} {b : Blk} (h : EndR R b) (hs : s < 2 ^ R) : lastB b s < 2 ^ R := by
  unfold lastB
  split
  · rename_i hk
    exact addB_lt hs (by have := h hk; omega)
  · exact hs
theorem foldB_lt {R : Nat} : ∀ (l : List Ins) {s : Nat}, (∀ i ∈ l, InsR R i) → s < 2 ^ R → l.foldr backB s < 2 ^ R
  | [], _, _, hs => hs
  | i :: l, s, h, hs => backB_lt (h i (List.mem_cons_self ..)) (foldB_lt l (fun q hq => h q (List.mem_cons_of_mem _ hq)) hs)
theorem blkB_lt {R n k s : Nat} {b : Blk} (h : BlkR R n b) (hs : s < 2 ^ R) : blkB b k s < 2 ^ R :=
  foldB_lt _ (fun i hi => (h.ins i (List.mem_of_mem_drop hi)).2.2) (lastB_lt h.fin hs)
theorem blkB_step {b : Blk} {k s : Nat} {i : Ins} (h : b.code[k]? = some i) : blkB b k s = backB i (blkB b (k + 1) s) := by
  obtain ⟨hk, rfl⟩ := List.getElem?_eq_some_iff.1 h
  unfold blkB
  rw [List.drop_eq_getElem_cons hk]
  rfl
theorem blkB_end {b : Blk} {s : Nat} : blkB b b.code.length s = lastB b s := by
  unfold blkB
  rw [List.drop_length]
  rfl
theorem useB_bit : ∀ (l : List Int) (s j : Nat), (∀ r ∈ l, 0 ≤ r) → (useB l s).testBit j = (s.testBit j || decide ((j : Int) ∈ l))
  | [], s, j, _ => by simp [useB]
  | r :: l, s, j, h => by
    have h0 := h r (List.mem_cons_self ..)
    have := useB_bit l (addB s r.toNat) j (fun q hq => h q (List.mem_cons_of_mem _ hq))
    show (useB l (addB s r.toNat)).testBit j = _
    rw [this, addB_bit, Bool.or_assoc]
    congr 1
    have e : decide (j = r.toNat) = decide ((j : Int) = r) := by
      rw [decide_eq_decide]; omega
    rw [e, ← Bool.decide_or]
    simp [List.mem_cons]
/-- one block keeps or makes a register live bit by bit -/
theorem backB_bit {R : Nat} {i : Ins} (hi : InsR R i) (hR : R ≤ 12) {s : Nat} (hs : s < 2 ^ R) (j : Nat) :
    (backB i s).testBit j = ((s.testBit j && !decide (i.defines = some (j : Int))) || decide ((j : Int) ∈ i.uses)) := by
  unfold backB
  rw [useB_bit _ _ _ (fun r hr => (hi.use r hr).1)]
  congr 1
  unfold defB
  have hs12 : s < 2 ^ 12 := Nat.lt_of_lt_of_le hs (Nat.pow_le_pow_right (by omega) hR)
  cases hd : i.defines with
  | none => simp
  | some d =>
    obtain ⟨h0, h1⟩ := hi.dfn d hd
    simp only
    rw [remB_bit s hs12 (by omega)]
    congr 2
    rw [decide_eq_decide]
    constructor
    · intro e; rw [e]; congr 1; omega
    · intro e; have : d = (j : Int) := by injection e
      omega
theorem lastB_bit {R : Nat} {b : Blk} (h : EndR R b) (s j : Nat) : (lastB b s).testBit j = (s.testBit j || decide (b.kind = 2 ∧ b.x = (j : Int))) := by
  unfold lastB
  split
  · rename_i hk
    have := h hk
    rw [addB_bit]
    congr 1
    rw [decide_eq_decide]
    omega
  · rename_i hk
    simp [hk]
end Go.Proofs.YteknhnnlhhgppaaDoor
