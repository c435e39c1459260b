/-
  Plain: what is live, as the layer's code computes it.
-/
import Derived.Test.YteknhnnlhhgppaaDoorLiveBits
namespace Go.Proofs.YteknhnnlhhgppaaDoor
set_option linter.unusedVariables false
set_option linter.unusedSimpArgs false
open Go.RowKit
set_option maxRecDepth 100000

def useB (l : List Int) (s : Nat) : Nat := l.foldl (fun s r => addB s r.toNat) s
def defB (i : Ins) (s : Nat) : Nat := match i.defines with | some d => remB s d.toNat | none => s
def backB (i : Ins) (s : Nat) : Nat := useB i.uses (defB i s)
def lastB (b : Blk) (s : Nat) : Nat := if b.kind = 2 then addB s b.x.toNat else s
/-- back over the instructions from the k-th on -/
def blkB (b : Blk) (k : Nat) (s : Nat) : Nat := (b.code.drop k).foldr backB (lastB b s)
/-- the registers of an instruction exist -/
structure InsR (R : Nat) (i : Ins) : Prop where
  use : ∀ r ∈ i.uses, 0 ≤ r ∧ r < (R : Int)
  dfn : ∀ d, i.defines = some d → 0 ≤ d ∧ d < (R : Int)
def EndR (R : Nat) (b : Blk) : Prop := b.kind = 2 → 0 ≤ b.x ∧ b.x < (R : Int)
structure BlkR (R n : Nat) (b : Blk) : Prop where
  ins : ∀ i ∈ b.code, 1 ≤ i.op ∧ i.op ≤ 16 ∧ InsR R i
  kind : 1 ≤ b.kind ∧ b.kind ≤ 3
  fin : EndR R b
  succ : ∀ t ∈ b.succ, 0 ≤ t ∧ t < (n : Int)
/-- a function that is well-formed, of few registers -/
structure FormR (f : Fn) (R : Nat) : Prop where
  regs : f.regs = (R : Int)
  few : R ≤ 12
  one : 0 < f.blocks.length
  blk : ∀ b ∈ f.blocks, BlkR R f.blocks.length b
theorem useB_lt {R : Nat} : ∀ (l : List Int) {s : Nat}, (∀ r ∈ l, 0 ≤ r ∧ r < (R : Int)) → s < 2 ^ R → useB l s < 2 ^ R
  | [], s, _, hs => hs
  | r :: l, s, h, hs => useB_lt l (fun q hq => h q (List.mem_cons_of_mem _ hq)) (addB_lt hs (by have := h r (List.mem_cons_self ..); omega))
theorem defB_lt {R s : Nat} {i : Ins} (hs : s < 2 ^ R) : defB i s < 2 ^ R := by
  unfold defB
  split
  · exact remB_lt hs
  · exact hs
theorem backB_lt {R s : Nat} {i : Ins} (h : InsR R i) (hs : s < 2 ^ R) : backB i s < 2 ^ R := useB_lt _ h.use (defB_lt hs)
theorem lastB_lt {R s : Nat} {b : Blk} (h : EndR R b) (hs : s < 2 ^ R) : lastB b s < 2 ^ R := by
  unfold lastB
  split
  · rename_i hk
    exact addB_lt hs (by have := h hk; omega)
  · exact hs
theorem foldB_lt {R : Nat} : ∀ (l : List Ins) {s : Nat}, (∀ i ∈ l, InsR R i) → s < 2 ^ R → l.foldr backB s < 2 ^ R
  | [], _, _, hs => hs
  | i :: l, s, h, hs => backB_lt (h i (List.mem_cons_self ..)) (foldB_lt l (fun q hq => h q (List.mem_cons_of_mem _ hq)) hs)
theorem blkB_lt {R n k s : Nat} {b : Blk} (h : BlkR R n b) (hs : s < 2 ^ R) : blkB b k s < 2 ^ R :=
  foldB_lt _ (fun i hi => (h.ins i (List.mem_of_mem_drop hi)).2.2) (lastB_lt h.fin hs)
theorem blkB_step {b : Blk} {k s : Nat} {i : Ins} (h : b.code[k]? = some i) : blkB b k s = backB i (blkB b (k + 1) s) := by
  obtain ⟨hk, rfl⟩ := List.getElem?_eq_some_iff.1 h
  unfold blkB
  rw [List.drop_eq_getElem_cons hk]
  rfl
theorem blkB_end {b : Blk} {s : Nat} : blkB b b.code.length s = lastB b s := by
  unfold blkB
  rw [List.drop_length]
  rfl
theorem useB_bit : ∀ (l : List Int) (s j : Nat), (∀ r ∈ l, 0 ≤ r) → (useB l s).testBit j = (s.testBit j || decide ((j : Int) ∈ l))
  | [], s, j, _ => by simp [useB]
  | r :: l, s, j, h => by
    have h0 := h r (List.mem_cons_self ..)
    have := useB_bit l (addB s r.toNat) j (fun q hq => h q (List.mem_cons_of_mem _ hq))
    show (useB l (addB s r.toNat)).testBit j = _
    rw [this, addB_bit, Bool.or_assoc]
    congr 1
    have e : decide (j = r.toNat) = decide ((j : Int) = r) := by
      rw [decide_eq_decide]; omega
    rw [e, ← Bool.decide_or]
    simp [List.mem_cons]
/-- one block keeps or makes a register live bit by bit -/
theorem backB_bit {R : Nat} {i : Ins} (hi : InsR R i) (hR : R ≤ 12) {s : Nat} (hs : s < 2 ^ R) (j : Nat) :
    (backB i s).testBit j = ((s.testBit j && !decide (i.defines = some (j : Int))) || decide ((j : Int) ∈ i.uses)) := by
  unfold backB
  rw [useB_bit _ _ _ (fun r hr => (hi.use r hr).1)]
  congr 1
  unfold defB
  have hs12 : s < 2 ^ 12 := Nat.lt_of_lt_of_le hs (Nat.pow_le_pow_right (by omega) hR)
  cases hd : i.defines with
  | none => simp
  | some d =>
    obtain ⟨h0, h1⟩ := hi.dfn d hd
    simp only
    rw [remB_bit s hs12 (by omega)]
    congr 2
    rw [decide_eq_decide]
    constructor
    · intro e; rw [e]; congr 1; omega
    · intro e; have : d = (j : Int) := by injection e
      omega
theorem lastB_bit {R : Nat} {b : Blk} (h : EndR R b) (s j : Nat) : (lastB b s).testBit j = (s.testBit j || decide (b.kind = 2 ∧ b.x = (j : Int))) := by
  unfold lastB
  split
  · rename_i hk
    have := h hk
    rw [addB_bit]
    congr 1
    rw [decide_eq_decide]
    omega
  · rename_i hk
    simp [hk]
end Go.Proofs.YteknhnnlhhgppaaDoor
