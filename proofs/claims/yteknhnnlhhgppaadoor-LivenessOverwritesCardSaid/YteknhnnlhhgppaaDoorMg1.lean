/-
  Mg1: several texts in one (IrRun, IrMem, IrClos, IrMap, IrSym).
-/
import Derived.Test.YteknhnnlhhgppaaDoorMg0
import Derived.Maps.OwnSet
import Derived.Maps.OwnOps
import Derived.WalkKit
import Derived.Below
import Derived.Deep.QuietTactic
import Derived.BigQuiet
/-
  Runs of functions as data (layer 17): a step, a run, and what holds of runs. No program is named here.
-/
namespace Go.Proofs.YteknhnnlhhgppaaDoor
set_option linter.unusedVariables false
set_option linter.unusedSimpArgs false
open Go.RowKit

/-- a function -/
structure Fn where
  name : ByteArray
  regs : Int
  arrays : List (ByteArray × Int)
  blocks : List Blk
/-- the state of a run: registers, counters, the contents of arrays and shared objects, the lock, outputs, values read -/
structure St where
  regs : List Int
  cnt : List Int
  mem : List (List Int)
  locked : Bool
  held : ByteArray
  out : List (Int × Int)
  read : Nat
def St.reg (s : St) (n : Int) : Int := s.regs.getD n.toNat 0
def St.count (s : St) (n : Int) : Int := s.cnt.getD n.toNat 0
def St.setReg (s : St) (n v : Int) : St := { s with regs := s.regs.set n.toNat v }
def St.setCount (s : St) (n v : Int) : St := { s with cnt := s.cnt.set n.toNat v }
/-- the place of a name -/
def pos (names : List ByteArray) (n : ByteArray) : Nat := names.findIdx (fun m => decide (m = n))
def St.row (s : St) (k : Nat) : List Int := s.mem.getD k []
/-- one instruction: the state behind it, or the error of a trap -/
def step (names : List ByteArray) (inp : List Int) (i : Ins) (s : St) : Except Int St :=
  if i.op = 1 then .ok (s.setReg i.dst (wrap32 i.imm))
  else if i.op = 2 then .ok (s.setReg i.dst (s.reg i.x))
  else if i.op = 3 then (if Wd.err i.imm (s.reg i.y) = 0 then .ok (s.setReg i.dst (Wd.apply i.imm (s.reg i.x) (s.reg i.y))) else .error (Wd.err i.imm (s.reg i.y)))
  else if i.op = 4 ∨ i.op = 6 then
    (if s.reg i.x < 0 ∨ (s.row (pos names i.sym)).length ≤ s.reg i.x then .error 10 else .ok (s.setReg i.dst ((s.row (pos names i.sym)).getD (s.reg i.x).toNat 0)))
  else if i.op = 5 ∨ i.op = 7 then
    (if s.reg i.x < 0 ∨ (s.row (pos names i.sym)).length ≤ s.reg i.x then .error 10
     else .ok { s with mem := s.mem.set (pos names i.sym) ((s.row (pos names i.sym)).set (s.reg i.x).toNat (s.reg i.y)) })
  else if i.op = 8 then (if s.reg i.x < 0 ∨ i.imm ≤ s.reg i.x then .error 11 else .ok s)
  else if i.op = 9 then .ok { s.setReg i.dst (inp.getD s.read 0) with read := s.read + 1 }
  else if i.op = 10 then .ok { s with out := s.out ++ [(i.imm, s.reg i.x)] }
  else if i.op = 11 then (if s.locked = true then .error 12 else .ok { s with locked := true, held := i.sym })
  else if i.op = 12 then (if s.locked = false ∨ ¬ s.held = i.sym then .error 12 else .ok { s with locked := false, held := ⟨#[]⟩ })
  else if i.op = 13 then .ok (s.setCount i.imm 0)
  else if i.op = 14 then .ok (s.setCount i.imm (wrap32 (s.count i.imm + 1)))
  else if i.op = 15 then .ok (s.setReg i.dst (s.count i.imm))
  else if i.op = 16 then (if s.count i.x < 0 ∨ i.imm ≤ s.count i.x then .error 11 else .ok s)
  else .ok s
/-- the block behind a block -/
def Blk.next (b : Blk) (s : St) : Nat := if b.kind = 2 ∧ s.reg b.x = 0 then b.els.toNat else b.to.toNat
/-- a run from a place, with fuel: the steps, the error, the state at its end -/
def go (blocks : List Blk) (names : List ByteArray) (inp : List Int) : Nat → Nat → Nat → St → Nat × Int × St
  | 0, _, _, s => (0, 13, s)
  | n + 1, at_, k, s =>
    match blocks[at_]? with
    | none => (0, 14, s)
    | some b =>
      match b.code[k]? with
      | some i =>
        match step names inp i s with
        | .error e => (0, e, s)
        | .ok s' => let r := go blocks names inp n at_ (k + 1) s'; (r.1 + 1, r.2)
      | none =>
        if b.kind = 3 then (if s.locked = true then (0, 12, s) else (1, 0, s))
        else let r := go blocks names inp n (b.next s) 0 s; (r.1 + 1, r.2)

theorem err_cases (k y : Int) : Wd.err k y = 0 ∨ Wd.err k y = 1 ∨ Wd.err k y = 9 := by unfold Wd.err; split <;> (try split) <;> simp
/-- what an instruction leaves -/
def Good (s : St) : Except Int St → Prop
  | .error e => e = 1 ∨ e = 9 ∨ e = 10 ∨ e = 11 ∨ e = 12
  | .ok s' => s.out <+: s'.out ∧ s.read ≤ s'.read
theorem good_ite {s : St} {c : Prop} [Decidable c] {a b : Except Int St} (ha : c → Good s a) (hb : ¬ c → Good s b) : Good s (if c then a else b) := by
  by_cases h : c
  · rw [if_pos h]; exact ha h
  · rw [if_neg h]; exact hb h
theorem step_good (names : List ByteArray) (inp : List Int) (i : Ins) (s : St) : Good s (step names inp i s) := by
  have hc := err_cases i.imm (s.reg i.y)
  unfold step
  repeat' (refine good_ite (fun _ => ?_) (fun _ => ?_))
  all_goals (first | exact ⟨List.prefix_refl _, Nat.le_refl _⟩ | exact ⟨List.prefix_refl _, Nat.le_succ _⟩ | exact ⟨List.prefix_append _ _, Nat.le_refl _⟩ | (show _ ∨ _; omega))
theorem step_err {names : List ByteArray} {inp : List Int} {i : Ins} {s : St} {e : Int} (h : step names inp i s = .error e) : e = 1 ∨ e = 9 ∨ e = 10 ∨ e = 11 ∨ e = 12 := by
  have := step_good names inp i s
  rw [h] at this
  exact this
theorem step_ok {names : List ByteArray} {inp : List Int} {i : Ins} {s s' : St} (h : step names inp i s = .ok s') : s.out <+: s'.out ∧ s.read ≤ s'.read := by
  have := step_good names inp i s
  rw [h] at this
  exact this
theorem go_mono {blocks : List Blk} {names : List ByteArray} {inp : List Int} : ∀ (n at_ k : Nat) (s : St), (go blocks names inp n at_ k s).1 ≤ n ∧ s.out <+: (go blocks names inp n at_ k s).2.2.out ∧ s.read ≤ (go blocks names inp n at_ k s).2.2.read := by
  intro n
  induction n with
  | zero => intro at_ k s; exact ⟨Nat.le_refl _, List.prefix_refl _, Nat.le_refl _⟩
  | succ n ih =>
    intro at_ k s
    unfold go
    split
    · exact ⟨Nat.zero_le _, List.prefix_refl _, Nat.le_refl _⟩
    · split
      · split
        · exact ⟨Nat.zero_le _, List.prefix_refl _, Nat.le_refl _⟩
        · rename_i s' hs
          obtain ⟨h1, h2⟩ := step_ok hs
          obtain ⟨i1, i2, i3⟩ := ih at_ (k + 1) s'
          exact ⟨Nat.succ_le_succ i1, h1.trans i2, Nat.le_trans h2 i3⟩
      · split
        · split
          · exact ⟨Nat.zero_le _, List.prefix_refl _, Nat.le_refl _⟩
          · exact ⟨Nat.succ_le_succ (Nat.zero_le _), List.prefix_refl _, Nat.le_refl _⟩
        · obtain ⟨i1, i2, i3⟩ := ih (Blk.next _ s) 0 s
          exact ⟨Nat.succ_le_succ i1, i2, i3⟩
/-- a run with less fuel is the beginning of one with more -/
theorem go_fuel {blocks : List Blk} {names : List ByteArray} {inp : List Int} : ∀ (n m at_ k : Nat) (s : St), n ≤ m →
    ((go blocks names inp n at_ k s).2.1 = 13 ∧ (go blocks names inp n at_ k s).1 = n ∧ n ≤ (go blocks names inp m at_ k s).1 ∧ (go blocks names inp n at_ k s).2.2.out <+: (go blocks names inp m at_ k s).2.2.out ∧ (go blocks names inp n at_ k s).2.2.read ≤ (go blocks names inp m at_ k s).2.2.read)
    ∨ ((go blocks names inp n at_ k s).2.1 ≠ 13 ∧ go blocks names inp m at_ k s = go blocks names inp n at_ k s) := by
  intro n
  induction n with
  | zero =>
    intro m at_ k s _
    obtain ⟨_, h2, h3⟩ := go_mono (blocks := blocks) (names := names) (inp := inp) m at_ k s
    exact .inl ⟨rfl, rfl, Nat.zero_le _, h2, h3⟩
  | succ n ih =>
    intro m at_ k s hm
    obtain ⟨m, rfl⟩ : ∃ m', m = m' + 1 := ⟨m - 1, by omega⟩
    have hnm : n ≤ m := by omega
    unfold go
    split
    · exact .inr ⟨by simp, rfl⟩
    · rename_i b _
      split
      · rename_i i _
        split
        · rename_i e he
          have := step_err he
          exact .inr ⟨by show e ≠ 13; omega, rfl⟩
        · rename_i s' _
          rcases ih m at_ (k + 1) s' hnm with ⟨h1, h2, h3, h4, h5⟩ | ⟨h1, h2⟩
          · exact .inl ⟨h1, congrArg (· + 1) h2, Nat.succ_le_succ h3, h4, h5⟩
          · exact .inr ⟨h1, by rw [h2]⟩
      · split
        · split
          · exact .inr ⟨by simp, rfl⟩
          · exact .inr ⟨by simp, rfl⟩
        · rcases ih m (b.next s) 0 s hnm with ⟨h1, h2, h3, h4, h5⟩ | ⟨h1, h2⟩
          · exact .inl ⟨h1, congrArg (· + 1) h2, Nat.succ_le_succ h3, h4, h5⟩
          · exact .inr ⟨h1, by rw [h2]⟩
end Go.Proofs.YteknhnnlhhgppaaDoor

/-
  Functions of the intermediate code, as they lie in memory (layer 17). 
-/
namespace Go.Proofs.YteknhnnlhhgppaaDoor
set_option linter.unusedVariables false
set_option linter.unusedSimpArgs false
open Go.RowKit

def isI64 (n : Int) : Prop := -9223372036854775808 ≤ n ∧ n ≤ 9223372036854775807
/-- an instruction as the language has it -/
structure Ins.Wf (i : Ins) : Prop where
  op0 : 0 ≤ i.op
  op1 : i.op ≤ 255
  dst : isI64 i.dst
  x : isI64 i.x
  y : isI64 i.y
  imm : isI64 i.imm
  sym : i.sym.size ≤ 9223372036854775807
/-- an instruction's six cells -/
structure InsAt (w : World) (b o : Nat) (i : Ins) : Prop where
  c0 : w.cell? ⟨b, o, none⟩ = some (.int .u8 i.op)
  c1 : w.cell? ⟨b, o + 1, none⟩ = some (.int .i64 i.dst)
  c2 : w.cell? ⟨b, o + 2, none⟩ = some (.int .i64 i.x)
  c3 : w.cell? ⟨b, o + 3, none⟩ = some (.int .i64 i.y)
  c4 : w.cell? ⟨b, o + 4, none⟩ = some (.int .i64 i.imm)
  c5 : w.cell? ⟨b, o + 5, none⟩ = some (.string i.sym)
/-- a row of instructions -/
structure CodeAt (w : World) (a : Option Addr) (l : List Ins) : Prop where
  fits : l.length ≤ 9223372036854775807
  wf : ∀ i ∈ l, i.Wf
  at_ : l.length = 0 ∨ ∃ b off, a = some ⟨b, off, none⟩ ∧ ∀ (k : Nat) (i : Ins), l[k]? = some i → InsAt w b (off + k * 6) i
structure Blk.Wf (b : Blk) : Prop where
  k0 : 0 ≤ b.kind
  k1 : b.kind ≤ 255
  x : isI64 b.x
  to : isI64 b.to
  els : isI64 b.els
/-- a block's five cells -/
structure BlkAt (w : World) (b o : Nat) (x : Blk) (a : Option Addr) (c : Nat) : Prop where
  c0 : w.cell? ⟨b, o, none⟩ = some (.slice a x.code.length c)
  c1 : w.cell? ⟨b, o + 1, none⟩ = some (.int .u8 x.kind)
  c2 : w.cell? ⟨b, o + 2, none⟩ = some (.int .i64 x.x)
  c3 : w.cell? ⟨b, o + 3, none⟩ = some (.int .i64 x.to)
  c4 : w.cell? ⟨b, o + 4, none⟩ = some (.int .i64 x.els)
/-- a row of blocks -/
structure BlksAt (w : World) (a : Option Addr) (l : List Blk) : Prop where
  fits : l.length ≤ 9223372036854775807
  wf : ∀ x ∈ l, x.Wf
  at_ : l.length = 0 ∨ ∃ b off, a = some ⟨b, off, none⟩ ∧ ∀ (k : Nat) (x : Blk), l[k]? = some x → ∃ ca cc, BlkAt w b (off + k * 5) x ca cc ∧ CodeAt w ca x.code
theorem cell_below {w w' : World} {b o : Nat} {v : Value} (hb : Below w.heap.size w w') (h : w.cell? ⟨b, o, none⟩ = some v) : w'.cell? ⟨b, o, none⟩ = some v :=
  (hb.cell (p := ⟨b, o, none⟩) (World.block_lt_of_cell? w _ h)).trans h
theorem InsAt.below {w w' : World} {b o : Nat} {i : Ins} (h : InsAt w b o i) (hb : Below w.heap.size w w') : InsAt w' b o i :=
  ⟨cell_below hb h.c0, cell_below hb h.c1, cell_below hb h.c2, cell_below hb h.c3, cell_below hb h.c4, cell_below hb h.c5⟩
theorem CodeAt.below {w w' : World} {a : Option Addr} {l : List Ins} (h : CodeAt w a l) (hb : Below w.heap.size w w') : CodeAt w' a l := by
  refine ⟨h.fits, h.wf, ?_⟩
  rcases h.at_ with h0 | ⟨b, off, ha, hk⟩
  · exact .inl h0
  · exact .inr ⟨b, off, ha, fun k i hi => (hk k i hi).below hb⟩
theorem BlkAt.below {w w' : World} {b o : Nat} {x : Blk} {a : Option Addr} {c : Nat} (h : BlkAt w b o x a c) (hb : Below w.heap.size w w') : BlkAt w' b o x a c :=
  ⟨cell_below hb h.c0, cell_below hb h.c1, cell_below hb h.c2, cell_below hb h.c3, cell_below hb h.c4⟩
theorem BlksAt.below {w w' : World} {a : Option Addr} {l : List Blk} (h : BlksAt w a l) (hb : Below w.heap.size w w') : BlksAt w' a l := by
  refine ⟨h.fits, h.wf, ?_⟩
  rcases h.at_ with h0 | ⟨b, off, ha, hk⟩
  · exact .inl h0
  · exact .inr ⟨b, off, ha, fun k x hx => by obtain ⟨ca, cc, h1, h2⟩ := hk k x hx; exact ⟨ca, cc, h1.below hb, h2.below hb⟩⟩
/-- a function: its rows -/
structure FnAt (w : World) (f : Fn) (aa ba : Option Addr) : Prop where
  arrays : ArrsAt w aa f.arrays
  blocks : BlksAt w ba f.blocks
  regs : isI64 f.regs
  name : f.name.size ≤ 9223372036854775807
theorem FnAt.below {w w' : World} {f : Fn} {aa ba : Option Addr} (h : FnAt w f aa ba) (hb : Below w.heap.size w w') : FnAt w' f aa ba := ⟨h.arrays.below hb, h.blocks.below hb, h.regs, h.name⟩
/-- what is held below is held where all of it lies below -/
theorem below_self {N : Nat} {w w' : World} (h : Below N w w') (hN : w.heap.size ≤ N) : Below w.heap.size w w' := h.mono hN
end Go.Proofs.YteknhnnlhhgppaaDoor

/-
  Contracts: the closures of validIns (package ir): between, register.
-/
namespace Go.Proofs.YteknhnnlhhgppaaDoor
set_option linter.unusedVariables false
set_option linter.unusedSimpArgs false
open Go.RowKit
set_option maxRecDepth 100000

set_option maxHeartbeats 2000000 in
theorem between_any (n lo hi : Int) (w : World) :
    Calls Tryd.prog 114 #[.int .i64 n, .int .i64 lo, .int .i64 hi] w fun e w' => e = .returned (.bool (decide (lo ≤ n) && decide (n ≤ hi))) ∧ w = w' := by
  go_enter Tryd.func114, Tryd.ntmps114
  go_wp2
  all_goals
    go_ret
    exact ⟨ret_bool (by first | (simp [*]; done) | (simp [*]; intros; omega)), rfl⟩

set_option maxHeartbeats 2000000 in
theorem isReg_any (n regs : Int) (b o : Nat) (w : World) (hc : w.cell? ⟨b, o + 1, none⟩ = some (.int .i64 regs)) :
    Calls Tryd.prog 115 #[.int .i64 n, .pointer (some ⟨b, o, none⟩)] w fun e w' => e = .returned (.bool (decide (0 ≤ n) && decide (n < regs))) ∧ w = w' := by
  go_enter Tryd.func115, Tryd.ntmps115
  go_wp2
  all_goals
    go_ret
    exact ⟨ret_bool (by first | (simp [*]; done) | (simp [*]; intros; omega)), rfl⟩
end Go.Proofs.YteknhnnlhhgppaaDoor

/-
  Maps from strings to values, made by the call itself: what they hold, as a list of pairs. No program is named here.
-/
namespace Go.Proofs.YteknhnnlhhgppaaDoor
set_option linter.unusedVariables false
set_option linter.unusedSimpArgs false
open Go.RowKit Go.Maps

/-- an element reads as itself -/
def heldElem (v : Value) : Option (DataW Value × List MemPlace) := some (.held v, [])
def look (m : List (ByteArray × Value)) (s : ByteArray) : Option Value := (m.find? (fun p => decide (p.1 = s))).map (·.2)
/-- block b is a map that holds these pairs -/
def MapAt (P : Program) (k : TypeId) (w : World) (b : Nat) (m : List (ByteArray × Value)) : Prop :=
  ∃ D : DataW Value, w.ownsMap P k heldElem b m.length D ∧ ∀ s : ByteArray, s.size ≤ maxLen → ∀ z, D.atKey (.string s.data.toList) z = ((look m s).map DataW.held).getD z
theorem MapAt.made (P : Program) (k : TypeId) (w : World) : MapAt P k (w.alloc (.map #[] 0)) w.heap.size [] :=
  ⟨.map [], World.ownsMap_made w P k heldElem, fun _ _ _ => rfl⟩
theorem MapAt.lt {P : Program} {k : TypeId} {w : World} {b : Nat} {m : List (ByteArray × Value)} (h : MapAt P k w b m) : b < w.heap.size := h.choose_spec.1.lt
theorem MapAt.move {P : Program} {k : TypeId} {w w' : World} {b : Nat} {m : List (ByteArray × Value)} (h : MapAt P k w b m) (hb : w'.heap[b]? = w.heap[b]?) : MapAt P k w' b m := by
  obtain ⟨D, ⟨es, clock, h1, h2⟩, h3⟩ := h
  exact ⟨D, ⟨es, clock, hb.trans h1, h2⟩, h3⟩
theorem MapAt.below {P : Program} {k : TypeId} {w w' : World} {b : Nat} {m : List (ByteArray × Value)} (h : MapAt P k w b m) (hb : Below w.heap.size w w') : MapAt P k w' b m :=
  h.move (hb.block b h.lt)
theorem look_snoc {m : List (ByteArray × Value)} {s : ByteArray} {v : Value} (h : look m s = none) (t : ByteArray) : look (m ++ [(s, v)]) t = if t = s then some v else look m t := by
  unfold look at h ⊢
  rw [List.find?_append]
  by_cases ht : t = s
  · subst ht
    rw [if_pos rfl]
    have : m.find? (fun p => decide (p.1 = t)) = none := by simpa using h
    rw [this]
    simp
  · rw [if_neg ht]
    have : [(s, v)].find? (fun p => decide (p.1 = t)) = none := by simp; exact fun h => ht h.symm
    rw [this]
    simp
theorem lit_ne {s t : ByteArray} (h : ¬ t = s) : Lit.string t.data.toList ≠ Lit.string s.data.toList := by
  intro e
  apply h
  injection e with e
  cases t; cases s
  simp at e
  rw [e]

section
variable {P : Program} (w : World) {ops : Array Oper} {rest : List Oper} {o : Oper} {a : Act} {Q : Exit → Act → World → Prop}
theorem has_look {D : DataW Value} {l : Lit} {r : Option Value} (h : ∀ z, D.atKey l z = (r.map DataW.held).getD z) : Maps.has D l = r.isSome := by
  cases r with
  | none => exact has_false_of_atKey h
  | some v => exact has_true_of_atKey h
/-- a lookup with ok -/
theorem wpList_look_ok (hg : o.guard = none) (m x : Operand) (t : TypeId) (hop : o.op = Op.lookup t m x true)
    (k e : TypeId) (hk : P.underlying k = some .string) (ht : P.underlying t = some (.map k e)) {z : Value} (hz : (zeroValue e).run P w = .ok z w) (b : Nat) (l : List (ByteArray × Value))
    (hm : a.eval m = .map (some b)) (hown : MapAt P k w b l) (s : ByteArray) (hx : a.eval x = .string s) (hs : s.size ≤ maxLen) (u : Value) (ok : Bool) (hu : (look l s).getD z = u) (hok : (look l s).isSome = ok)
    (hK : wpList P ops Q rest (a.put o.dst (.tuple #[u, .bool ok])) w) :
    wpList P ops Q (o :: rest) a w := by
  obtain ⟨D, hD, hat⟩ := hown
  have hat := hat s hs
  refine wpList_lookup_own_ok w hg m x t hop k e (string_keyed hk) ht heldElem hz (.held z) [] rfl b _ D hm hD _ _ hx (WideMaps.keyOf_string_mk hk hs) fun v ps hv => ?_
  have hv1 : DataW.held v = D.atKey (.string s.data.toList) (.held z) := by
    have := Option.some.inj hv
    exact congrArg Prod.fst this
  rw [hat] at hv1
  have hv2 : v = u := by
    rw [← hu]
    cases hl : look l s with
    | none => rw [hl] at hv1; simpa using hv1
    | some q => rw [hl] at hv1; simpa using hv1
  rw [hv2, has_look hat, hok]
  exact hK
/-- a lookup -/
theorem wpList_look (hg : o.guard = none) (m x : Operand) (t : TypeId) (hop : o.op = Op.lookup t m x false)
    (k e : TypeId) (hk : P.underlying k = some .string) (ht : P.underlying t = some (.map k e)) {z : Value} (hz : (zeroValue e).run P w = .ok z w) (b : Nat) (l : List (ByteArray × Value))
    (hm : a.eval m = .map (some b)) (hown : MapAt P k w b l) (s : ByteArray) (hx : a.eval x = .string s) (hs : s.size ≤ maxLen) (u : Value) (hu : (look l s).getD z = u)
    (hK : wpList P ops Q rest (a.put o.dst u) w) :
    wpList P ops Q (o :: rest) a w := by
  obtain ⟨D, hD, hat⟩ := hown
  have hat := hat s hs
  refine wpList_plain hg fun K' hK' => ?_
  obtain ⟨v, ps, hrun, hv⟩ := hD.lookup (string_keyed hk) ht hz (zd := .held z) (zp := []) rfl (WideMaps.keyOf_string_mk hk hs)
  have hv1 : DataW.held v = D.atKey (.string s.data.toList) (.held z) := by
    have := Option.some.inj hv
    exact congrArg Prod.fst this
  rw [hat] at hv1
  have hv2 : v = u := by
    rw [← hu]
    cases hl : look l s with
    | none => rw [hl] at hv1; simpa using hv1
    | some q => rw [hl] at hv1; simpa using hv1
  unfold Oper.wp
  simp [execOp, hop, hm, hx, hrun, Result.andThen]
  exact hK' _ _ (by rw [hv2]; exact hK)
end
/-- the run of a lookup -/
theorem MapAt.run {P : Program} {w : World} {t k e : TypeId} (hk : P.underlying k = some .string) (ht : P.underlying t = some (.map k e)) {z : Value} (hz : (zeroValue e).run P w = .ok z w) {b : Nat} {l : List (ByteArray × Value)}
    (hown : MapAt P k w b l) {s : ByteArray} (hs : s.size ≤ maxLen) : (Instr.lookup t (.map (some b)) (.string s) false).run P w = .ok ((look l s).getD z) w := by
  obtain ⟨D, hD, hat⟩ := hown
  have hat := hat s hs
  obtain ⟨v, ps, hrun, hv⟩ := hD.lookup (string_keyed hk) ht hz (zd := .held z) (zp := []) rfl (WideMaps.keyOf_string_mk hk hs)
  have hv1 : DataW.held v = D.atKey (.string s.data.toList) (.held z) := by
    have := Option.some.inj hv
    exact congrArg Prod.fst this
  rw [hat] at hv1
  rw [hrun]
  cases hl : look l s with
  | none => rw [hl] at hv1; simp at hv1; rw [hv1]; rfl
  | some q => rw [hl] at hv1; simp at hv1; rw [hv1]; rfl
theorem MapAt.run_ok {P : Program} {w : World} {t k e : TypeId} (hk : P.underlying k = some .string) (ht : P.underlying t = some (.map k e)) {z : Value} (hz : (zeroValue e).run P w = .ok z w) {b : Nat} {l : List (ByteArray × Value)}
    (hown : MapAt P k w b l) {s : ByteArray} (hs : s.size ≤ maxLen) : (Instr.lookup t (.map (some b)) (.string s) true).run P w = .ok (.tuple #[(look l s).getD z, .bool (look l s).isSome]) w := by
  obtain ⟨D, hD, hat⟩ := hown
  have hat := hat s hs
  obtain ⟨v, ps, hrun, hv⟩ := hD.look_ok (string_keyed hk) ht hz (zd := .held z) (zp := []) rfl (WideMaps.keyOf_string_mk hk hs)
  have hv1 : DataW.held v = D.atKey (.string s.data.toList) (.held z) := by
    have := Option.some.inj hv
    exact congrArg Prod.fst this
  rw [hat] at hv1
  rw [hrun, has_look hat]
  cases hl : look l s with
  | none => rw [hl] at hv1; simp at hv1; rw [hv1]; rfl
  | some q => rw [hl] at hv1; simp at hv1; rw [hv1]; rfl
/-- a store of a new key -/
theorem MapAt.store {P : Program} {w : World} {t k e : TypeId} (hk : P.underlying k = some .string) (ht : P.underlying t = some (.map k e)) {b : Nat} {l : List (ByteArray × Value)}
    (hown : MapAt P k w b l) {s : ByteArray} (hs : s.size ≤ maxLen) (hn : l.length < maxLen) (h0 : look l s = none) (v : Value) :
    ∃ w', (Instr.mapUpdate t (.map (some b)) (.string s) v).run P w = .ok () w' ∧ MapAt P k w' b (l ++ [(s, v)]) ∧ w.grownBy w' (some b) := by
  obtain ⟨D, hD, hat⟩ := hown
  obtain ⟨w', h1, h2, h3⟩ := hD.update (val := v) (string_keyed hk) ht hn (WideMaps.keyOf_string_mk hk hs) rfl
  refine ⟨w', h1, ⟨_, by rw [List.length_append]; exact h2, fun u hu z => ?_⟩, h3⟩
  rw [look_snoc h0]
  by_cases he : u = s
  · subst he
    rw [if_pos rfl, Maps.atKey_put_same hD.isMap (show WideAt.IsKeyLit (.string u.data.toList) from trivial)]
    rfl
  · rw [if_neg he, Maps.atKey_put_other (lit_ne he)]
    exact hat u hu z
theorem wpList_mapStore {P : Program} (w : World) {ops : Array Oper} {rest : List Oper} {o : Oper} {a : Act} {Q : Exit → Act → World → Prop}
    (hg : o.guard = none) (m x v : Operand) (t : TypeId) (hop : o.op = Op.mapUpdate t m x v)
    (k e : TypeId) (hk : P.underlying k = some .string) (ht : P.underlying t = some (.map k e)) (b : Nat) (l : List (ByteArray × Value))
    (hm : a.eval m = .map (some b)) (hown : MapAt P k w b l) (s : ByteArray) (val : Value) (hx : a.eval x = .string s) (hv : a.eval v = val) (hs : s.size ≤ maxLen) (hn : l.length < maxLen) (h0 : look l s = none)
    (hK : ∀ w', MapAt P k w' b (l ++ [(s, val)]) → w.grownBy w' (some b) → wpList P ops Q rest (a.put o.dst undef) w') :
    wpList P ops Q (o :: rest) a w := by
  refine wpList_plain hg fun K' hK' => ?_
  obtain ⟨w', hrun, r1, r2⟩ := hown.store hk ht hs hn h0 val
  unfold Oper.wp
  simp [execOp, hop, hm, hx, hv, hrun, Result.andThen]
  exact hK' _ _ (hK w' r1 r2)
end Go.Proofs.YteknhnnlhhgppaaDoor

/-
  Contracts: the closure symbol of validIns, validIns (package ir).
-/
namespace Go.Proofs.YteknhnnlhhgppaaDoor
set_option linter.unusedVariables false
set_option linter.unusedSimpArgs false
open Go.RowKit
set_option maxRecDepth 100000

theorem zeroB (w : World) : (zeroValue 4).run Tryd.prog w = .ok (.bool false) w := by kernel_rfl
/-- the names of a function: true for arrays, false for shared objects -/
def symMap (names : List (ByteArray × Bool)) : List (ByteArray × Value) := names.map fun p => (p.1, .bool p.2)
def lookB (names : List (ByteArray × Bool)) (s : ByteArray) : Option Bool := (names.find? (fun p => decide (p.1 = s))).map (·.2)
theorem look_symMap (names : List (ByteArray × Bool)) (s : ByteArray) : look (symMap names) s = (lookB names s).map Value.bool := by
  unfold look symMap lookB
  rw [List.find?_map]
  simp only [Option.map_map]
  rfl

set_option maxHeartbeats 2000000 in
theorem symbol_any (array : Bool) (names : List (ByteArray × Bool)) (mb bm bi oi om : Nat) (sym : ByteArray) (w : World) (hs : sym.size ≤ 9223372036854775807)
    (h1 : w.cell? ⟨bm, om, none⟩ = some (.map (some mb))) (h2 : w.cell? ⟨bi, oi + 5, none⟩ = some (.string sym)) (hm : MapAt Tryd.prog 9 w mb (symMap names)) :
    Calls Tryd.prog 116 #[.bool array, .pointer (some ⟨bm, om, none⟩), .pointer (some ⟨bi, oi, none⟩)] w fun e w' => e = .returned (.bool (lookB names sym == some array)) ∧ w = w' := by
  have hrun := hm.run_ok (s := sym) (t := 163) Tryd.underlying9 Tryd.underlying163 (zeroB w) hs
  rw [look_symMap] at hrun
  cases hl : lookB names sym with
  | none =>
    rw [hl] at hrun
    have hrun' : (Instr.lookup 163 (.map (some mb)) (.string sym) true).run Tryd.prog w = .ok (.tuple #[.bool false, .bool false]) w := hrun
    clear hrun hl hm
    go_enter Tryd.func116, Tryd.ntmps116
    go_wp2
    go_ret
    exact ⟨rfl, rfl⟩
  | some k =>
    rw [hl] at hrun
    have hrun' : (Instr.lookup 163 (.map (some mb)) (.string sym) true).run Tryd.prog w = .ok (.tuple #[.bool k, .bool true]) w := hrun
    clear hrun hl hm
    go_enter Tryd.func116, Tryd.ntmps116
    go_wp2
    go_ret
    exact ⟨by cases k <;> cases array <;> rfl, rfl⟩
end Go.Proofs.YteknhnnlhhgppaaDoor
