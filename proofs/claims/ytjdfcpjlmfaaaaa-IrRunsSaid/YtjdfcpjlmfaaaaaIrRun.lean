/-
  Runs of functions as data (layer 17): a step, a run, and what holds of runs. No program is named here.
-/
import Derived.Test.YtjdfcpjlmfaaaaaIr
import Derived.Test.YtjdfcpjlmfaaaaaWordPlain
namespace Go.Proofs.Ytjdfcpjlmfaaaaa
set_option linter.unusedVariables false
set_option linter.unusedSimpArgs false
open Go.RowKit

/-- a function -/
structure Fn where
  name : ByteArray
  regs : Int
  arrays : List (ByteArray × Int)
  blocks : List Blk
/-- the state of a run: registers, counters, the contents of arrays and shared objects, the lock, outputs, values read -/
structure St where
  regs : List Int
  cnt : List Int
  mem : List (List Int)
  locked : Bool
  held : ByteArray
  out : List (Int × Int)
  read : Nat
def St.reg (s : St) (n : Int) : Int := s.regs.getD n.toNat 0
def St.count (s : St) (n : Int) : Int := s.cnt.getD n.toNat 0
def St.setReg (s : St) (n v : Int) : St := { s with regs := s.regs.set n.toNat v }
def St.setCount (s : St) (n v : Int) : St := { s with cnt := s.cnt.set n.toNat v }
/-- the place of a name -/
def pos (names : List ByteArray) (n : ByteArray) : Nat := names.findIdx (fun m => decide (m = n))
def St.row (s : St) (k : Nat) : List Int := s.mem.getD k []
/-- one instruction: the state behind it, or the error of a trap -/
def step (names : List ByteArray) (inp : List Int) (i : Ins) (s : St) : Except Int St :=
  if i.op = 1 then .ok (s.setReg i.dst (wrap32 i.imm))
  else if i.op = 2 then .ok (s.setReg i.dst (s.reg i.x))
  else if i.op = 3 then (if Wd.err i.imm (s.reg i.y) = 0 then .ok (s.setReg i.dst (Wd.apply i.imm (s.reg i.x) (s.reg i.y))) else .error (Wd.err i.imm (s.reg i.y)))
  else if i.op = 4 ∨ i.op = 6 then
    (if s.reg i.x < 0 ∨ (s.row (pos names i.sym)).length ≤ s.reg i.x then .error 10 else .ok (s.setReg i.dst ((s.row (pos names i.sym)).getD (s.reg i.x).toNat 0)))
  else if i.op = 5 ∨ i.op = 7 then
    (if s.reg i.x < 0 ∨ (s.row (pos names i.sym)).length ≤ s.reg i.x then .error 10
     else .ok { s with mem := s.mem.set (pos names i.sym) ((s.row (pos names i.sym)).set (s.reg i.x).toNat (s.reg i.y)) })
  else if i.op = 8 then (if s.reg i.x < 0 ∨ i.imm ≤ s.reg i.x then .error 11 else .ok s)
  else if i.op = 9 then .ok { s.setReg i.dst (inp.getD s.read 0) with read := s.read + 1 }
  else if i.op = 10 then .ok { s with out := s.out ++ [(i.imm, s.reg i.x)] }
  else if i.op = 11 then (if s.locked = true then .error 12 else .ok { s with locked := true, held := i.sym })
  else if i.op = 12 then (if s.locked = false ∨ ¬ s.held = i.sym then .error 12 else .ok { s with locked := false, held := ⟨#[]⟩ })
  else if i.op = 13 then .ok (s.setCount i.imm 0)
  else if i.op = 14 then .ok (s.setCount i.imm (wrap32 (s.count i.imm + 1)))
  else if i.op = 15 then .ok (s.setReg i.dst (s.count i.imm))
  else if i.op = 16 then (if s.count i.x < 0 ∨ i.imm ≤ s.count i.x then .error 11 else .ok s)
  else .ok s
/-- the block behind a block -/
def Blk.next (b : Blk) (s : St) : Nat := if b.kind = 2 ∧ s.reg b.x = 0 then b.els.toNat else b.to.toNat
/-- a run from a place, with fuel: the steps, the error, the state at its end -/
def go (blocks : List Blk) (names : List ByteArray) (inp : List Int) : Nat → Nat → Nat → St → Nat × Int × St
  | 0, _, _, s => (0, 13, s)
  | n + 1, at_, k, s =>
    match blocks[at_]? with
    | none => (0, 14, s)
    | some b =>
      match b.code[k]? with
      | some i =>
        match step names inp i s with
        | .error e => (0, e, s)
        | .ok s' => let r := go blocks names inp n at_ (k + 1) s'; (r.1 + 1, r.2)
      | none =>
        if b.kind = 3 then (if s.locked = true then (0, 12, s) else (1, 0, s))
        else let r := go blocks names inp n (b.next s) 0 s; (r.1 + 1, r.2)

theorem err_cases (k y : Int) : Wd.err k y = 0 ∨ Wd.err k y = 1 ∨ Wd.err k y = 9 := by unfold Wd.err; split <;> (try split) <;> simp
/-- what an instruction leaves -/
def Good (s : St) : Except Int St → Prop
  | .error e => e = 1 ∨ e = 9 ∨ e = 10 ∨ e = 11 ∨ e = 12
  | .ok s' => s.out <+: s'.out ∧ s.read ≤ s'.read
theorem good_ite {s : St} {c : Prop} [Decidable c] {a b : Except Int St} (ha : c → Good s a) (hb : ¬ c → Good s b) : Good s (if c then a else b) := by
  by_cases h : c
  · rw [if_pos h]; exact ha h
  · rw [if_neg h]; exact hb h
theorem step_good (names : List ByteArray) (inp : List Int) (i : Ins) (s : St) : Good s (step names inp i s) := by
  have hc := err_cases i.imm (s.reg i.y)
  unfold step
  repeat' (refine good_ite (fun _ => ?_) (fun _ => ?_))
  all_goals (first | exact ⟨List.prefix_refl _, Nat.le_refl _⟩ | exact ⟨List.prefix_refl _, Nat.le_succ _⟩ | exact ⟨List.prefix_append _ _, Nat.le_refl _⟩ | (show _ ∨ _; omega))
theorem step_err {names : List ByteArray} {inp : List Int} {i : Ins} {s : St} {e : Int} (h : step names inp i s = .error e) : e = 1 ∨ e = 9 ∨ e = 10 ∨ e = 11 ∨ e = 12 := by
  have := step_good names inp i s
  rw [h] at this
  exact this
theorem step_ok {names : List ByteArray} {inp : List Int} {i : Ins} {s s' : St} (h : step names inp i s = .ok s') : s.out <+: s'.out ∧ s.read ≤ s'.read := by
  have := step_good names inp i s
  rw [h] at this
  exact this
theorem go_mono {blocks : List Blk} {names : List ByteArray} {inp : List Int} : ∀ (n at_ k : Nat) (s : St), (go blocks names inp n at_ k s).1 ≤ n ∧ s.out <+: (go blocks names inp n at_ k s).2.2.out ∧ s.read ≤ (go blocks names inp n at_ k s).2.2.read := by
  intro n
  induction n with
  | zero => intro at_ k s; exact ⟨Nat.le_refl _, List.prefix_refl _, Nat.le_refl _⟩
  | succ n ih =>
    intro at_ k s
    unfold go
    split
    · exact ⟨Nat.zero_le _, List.prefix_refl _, Nat.le_refl _⟩
    · split
      · split
        · exact ⟨Nat.zero_le _, List.prefix_refl _, Nat.le_refl _⟩
        · rename_i s' hs
          obtain ⟨h1, h2⟩ := step_ok hs
          obtain ⟨i1, i2, i3⟩ := ih at_ (k + 1) s'
          exact ⟨Nat.succ_le_succ i1, h1.trans i2, Nat.le_trans h2 i3⟩
      · split
        · split
          · exact ⟨Nat.zero_le _, List.prefix_refl _, Nat.le_refl _⟩
          · exact ⟨Nat.succ_le_succ (Nat.zero_le _), List.prefix_refl _, Nat.le_refl _⟩
        · obtain ⟨i1, i2, i3⟩ := ih (Blk.next _ s) 0 s
          exact ⟨Nat.succ_le_succ i1, i2, i3⟩
/-- a run with less fuel is the beginning of one with more -/
theorem go_fuel {blocks : List Blk} {names : List ByteArray} {inp : List Int} : ∀ (n m at_ k : Nat) (s : St), n ≤ m →
    ((go blocks names inp n at_ k s).2.1 = 13 ∧ (go blocks names inp n at_ k s).1 = n ∧ n ≤ (go blocks names inp m at_ k s).1 ∧ (go blocks names inp n at_ k s).2.2.out <+: (go blocks names inp m at_ k s).2.2.out ∧ (go blocks names inp n at_ k s).2.2.read ≤ (go blocks names inp m at_ k s).2.2.read)
    ∨ ((go blocks names inp n at_ k s).2.1 ≠ 13 ∧ go blocks names inp m at_ k s = go blocks names inp n at_ k s) := by
  intro n
  induction n with
  | zero =>
    intro m at_ k s _
    obtain ⟨_, h2, h3⟩ := go_mono (blocks := blocks) (names := names) (inp := inp) m at_ k s
    exact .inl ⟨rfl, rfl, Nat.zero_le _, h2, h3⟩
  | succ n ih =>
    intro m at_ k s hm
    obtain ⟨m, rfl⟩ : ∃ m', m = m' + 1 := ⟨m - 1, by omega⟩
    have hnm : n ≤ m := by omega
    unfold go
    split
    · exact .inr ⟨by simp, rfl⟩
    · rename_i b _
      split
      · rename_i i _
        split
        · rename_i e he
          have := step_err he
          exact .inr ⟨by show e ≠ 13; omega, rfl⟩
        · rename_i s' _
          rcases ih m at_ (k + 1) s' hnm with ⟨h1, h2, h3, h4, h5⟩ | ⟨h1, h2⟩
          · exact .inl ⟨h1, congrArg (· + 1) h2, Nat.succ_le_succ h3, h4, h5⟩
          · exact .inr ⟨h1, by rw [h2]⟩
      · split
        · split
          · exact .inr ⟨by simp, rfl⟩
          · exact .inr ⟨by simp, rfl⟩
        · rcases ih m (b.next s) 0 s hnm with ⟨h1, h2, h3, h4, h5⟩ | ⟨h1, h2⟩
          · exact .inl ⟨h1, congrArg (· + 1) h2, Nat.succ_le_succ h3, h4, h5⟩
          · exact .inr ⟨h1, by rw [h2]⟩
end Go.Proofs.Ytjdfcpjlmfaaaaa
