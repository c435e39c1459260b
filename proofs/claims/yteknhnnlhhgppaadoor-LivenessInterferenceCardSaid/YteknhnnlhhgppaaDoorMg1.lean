/-
  Mg1: several texts in one (IrRun, IrMem, IrMatch).
-/
import Derived.Test.YteknhnnlhhgppaaDoorMg0
/-
  Runs of functions as data (layer 17): a step, a run, and what holds of runs. No program is named here.
-/
namespace Go.Proofs.YteknhnnlhhgppaaDoor
set_option linter.unusedVariables false
set_option linter.unusedSimpArgs false
open Go.RowKit

/-- a function -/
structure Fn where
  name : ByteArray
  regs : Int
  arrays : List (ByteArray × Int)
  blocks : List Blk
/-- the state of a run: registers, counters, the contents of arrays and shared objects, the lock, outputs, values read -/
structure St where
  regs : List Int
  cnt : List Int
  mem : List (List Int)
  locked : Bool
  held : ByteArray
  out : List (Int × Int)
  read : Nat
def St.reg (s : St) (n : Int) : Int := s.regs.getD n.toNat 0
def St.count (s : St) (n : Int) : Int := s.cnt.getD n.toNat 0
def St.setReg (s : St) (n v : Int) : St := { s with regs := s.regs.set n.toNat v }
def St.setCount (s : St) (n v : Int) : St := { s with cnt := s.cnt.set n.toNat v }
/-- the place of a name -/
def pos (names : List ByteArray) (n : ByteArray) : Nat := names.findIdx (fun m => decide (m = n))
def St.row (s : St) (k : Nat) : List Int := s.mem.getD k []
/-- one instruction: the state behind it, or the error of a trap -/
def step (names : List ByteArray) (inp : List Int) (i : Ins) (s : St) : Except Int St :=
  if i.op = 1 then .ok (s.setReg i.dst (wrap32 i.imm))
  else if i.op = 2 then .ok (s.setReg i.dst (s.reg i.x))
  else if i.op = 3 then (if Wd.err i.imm (s.reg i.y) = 0 then .ok (s.setReg i.dst (Wd.apply i.imm (s.reg i.x) (s.reg i.y))) else .error (Wd.err i.imm (s.reg i.y)))
  else if i.op = 4 ∨ i.op = 6 then
    (if s.reg i.x < 0 ∨ (s.row (pos names i.sym)).length ≤ s.reg i.x then .error 10 else .ok (s.setReg i.dst ((s.row (pos names i.sym)).getD (s.reg i.x).toNat 0)))
  else if i.op = 5 ∨ i.op = 7 then
    (if s.reg i.x < 0 ∨ (s.row (pos names i.sym)).length ≤ s.reg i.x then .error 10
     else .ok { s with mem := s.mem.set (pos names i.sym) ((s.row (pos names i.sym)).set (s.reg i.x).toNat (s.reg i.y)) })
  else if i.op = 8 then (if s.reg i.x < 0 ∨ i.imm ≤ s.reg i.x then .error 11 else .ok s)
  else if i.op = 9 then .ok { s.setReg i.dst (inp.getD s.read 0) with read := s.read + 1 }
  else if i.op = 10 then .ok { s with out := s.out ++ [(i.imm, s.reg i.x)] }
  else if i.op = 11 then (if s.locked = true then .error 12 else .ok { s with locked := true, held := i.sym })
  else if i.op = 12 then (if s.locked = false ∨ ¬ s.held = i.sym then .error 12 else .ok { s with locked := false, held := ⟨#[]⟩ })
  else if i.op = 13 then .ok (s.setCount i.imm 0)
  else if i.op = 14 then .ok (s.setCount i.imm (wrap32 (s.count i.imm + 1)))
  else if i.op = 15 then .ok (s.setReg i.dst (s.count i.imm))
  else if i.op = 16 then (if s.count i.x < 0 ∨ i.imm ≤ s.count i.x then .error 11 else .ok s)
  else .ok s
/-- the block behind a block -/
def Blk.next (b : Blk) (s : St) : Nat := if b.kind = 2 ∧ s.reg b.x = 0 then b.els.toNat else b.to.toNat
/-- a run from a place, with fuel: the steps, the error, the state at its end -/
def go (blocks : List Blk) (names : List ByteArray) (inp : List Int) : Nat → Nat → Nat → St → Nat × Int × St
  | 0, _, _, s => (0, 13, s)
  | n + 1, at_, k, s =>
    match blocks[at_]? with
    | none => (0, 14, s)
    | some b =>
      match b.code[k]? with
      | some i =>
        match step names inp i s with
        | .error e => (0, e, s)
        | .ok s' => let r := go blocks names inp n at_ (k + 1) s'; (r.1 + 1, r.2)
      | none =>
        if b.kind = 3 then (if s.locked = true then (0, 12, s) else (1, 0, s))
        else let r := go blocks names inp n (b.next s) 0 s; (r.1 + 1, r.2)

theorem err_cases (k y : Int) : Wd.err k y = 0 ∨ Wd.err k y = 1 ∨ Wd.err k y = 9 := by unfold Wd.err; split <;> (try split) <;> simp
/-- what an instruction leaves -/
def Good (s : St) : Except Int St → Prop
  | .error e => e = 1 ∨ e = 9 ∨ e = 10 ∨ e = 11 ∨ e = 12
  | .ok s' => s.out <+: s'.out ∧ s.read ≤ s'.read
theorem good_ite {s : St} {c : Prop} [Decidable c] {a b : Except Int St} (ha : c → Good s a) (hb : ¬ c → Good s b) : Good s (if c then a else b) := by
  by_cases h : c
  · rw [if_pos h]; exact ha h
  · rw [if_neg h]; exact hb h
theorem step_good (names : List ByteArray) (inp : List Int) (i : Ins) (s : St) : Good s (step names inp i s) := by
  have hc := err_cases i.imm (s.reg i.y)
  unfold step
  repeat' (refine good_ite (fun _ => ?_) (fun _ => ?_))
  all_goals (first | exact ⟨List.prefix_refl _, Nat.le_refl _⟩ | exact ⟨List.prefix_refl _, Nat.le_succ _⟩ | exact ⟨List.prefix_append _ _, Nat.le_refl _⟩ | (show _ ∨ _; omega))
theorem step_err {names : List ByteArray} {inp : List Int} {i : Ins} {s : St} {e : Int} (h : step names inp i s = .error e) : e = 1 ∨ e = 9 ∨ e = 10 ∨ e = 11 ∨ e = 12 := by
  have := step_good names inp i s
  rw [h] at this
  exact this
theorem step_ok {names : List ByteArray} {inp : List Int} {i : Ins} {s s' : St} (h : step names inp i s = .ok s') : s.out <+: s'.out ∧ s.read ≤ s'.read := by
  have := step_good names inp i s
  rw [h] at this
  exact this
theorem go_mono {blocks : List Blk} {names : List ByteArray} {inp : List Int} : ∀ (n at_ k : Nat) (s : St), (go blocks names inp n at_ k s).1 ≤ n ∧ s.out <+: (go blocks names inp n at_ k s).2.2.out ∧ s.read ≤ (go blocks names inp n at_ k s).2.2.read := by
  intro n
  induction n with
  | zero => intro at_ k s; exact ⟨Nat.le_refl _, List.prefix_refl _, Nat.le_refl _⟩
  | succ n ih =>
    intro at_ k s
    unfold go
    split
    · exact ⟨Nat.zero_le _, List.prefix_refl _, Nat.le_refl _⟩
    · split
      · split
        · exact ⟨Nat.zero_le _, List.prefix_refl _, Nat.le_refl _⟩
        · rename_i s' hs
          obtain ⟨h1, h2⟩ := step_ok hs
          obtain ⟨i1, i2, i3⟩ := ih at_ (k + 1) s'
          exact ⟨Nat.succ_le_succ i1, h1.trans i2, Nat.le_trans h2 i3⟩
      · split
        · split
          · exact ⟨Nat.zero_le _, List.prefix_refl _, Nat.le_refl _⟩
          · exact ⟨Nat.succ_le_succ (Nat.zero_le _), List.prefix_refl _, Nat.le_refl _⟩
        · obtain ⟨i1, i2, i3⟩ := ih (Blk.next _ s) 0 s
          exact ⟨Nat.succ_le_succ i1, i2, i3⟩
/-- a run with less fuel is the beginning of one with more -/
theorem go_fuel {blocks : List Blk} {names : List ByteArray} {inp : List Int} : ∀ (n m at_ k : Nat) (s : St), n ≤ m →
    ((go blocks names inp n at_ k s).2.1 = 13 ∧ (go blocks names inp n at_ k s).1 = n ∧ n ≤ (go blocks names inp m at_ k s).1 ∧ (go blocks names inp n at_ k s).2.2.out <+: (go blocks names inp m at_ k s).2.2.out ∧ (go blocks names inp n at_ k s).2.2.read ≤ (go blocks names inp m at_ k s).2.2.read)
    ∨ ((go blocks names inp n at_ k s).2.1 ≠ 13 ∧ go blocks names inp m at_ k s = go blocks names inp n at_ k s) := by
  intro n
  induction n with
  | zero =>
    intro m at_ k s _
    obtain ⟨_, h2, h3⟩ := go_mono (blocks := blocks) (names := names) (inp := inp) m at_ k s
    exact .inl ⟨rfl, rfl, Nat.zero_le _, h2, h3⟩
  | succ n ih =>
    intro m at_ k s hm
    obtain ⟨m, rfl⟩ : ∃ m', m = m' + 1 := ⟨m - 1, by omega⟩
    have hnm : n ≤ m := by omega
    unfold go
    split
    · exact .inr ⟨by simp, rfl⟩
    · rename_i b _
      split
      · rename_i i _
        split
        · rename_i e he
          have := step_err he
          exact .inr ⟨by show e ≠ 13; omega, rfl⟩
        · rename_i s' _
          rcases ih m at_ (k + 1) s' hnm with ⟨h1, h2, h3, h4, h5⟩ | ⟨h1, h2⟩
          · exact .inl ⟨h1, congrArg (· + 1) h2, Nat.succ_le_succ h3, h4, h5⟩
          · exact .inr ⟨h1, by rw [h2]⟩
      · split
        · split
          · exact .inr ⟨by simp, rfl⟩
          · exact .inr ⟨by simp, rfl⟩
        · rcases ih m (b.next s) 0 s hnm with ⟨h1, h2, h3, h4, h5⟩ | ⟨h1, h2⟩
          · exact .inl ⟨h1, congrArg (· + 1) h2, Nat.succ_le_succ h3, h4, h5⟩
          · exact .inr ⟨h1, by rw [h2]⟩
end Go.Proofs.YteknhnnlhhgppaaDoor

/-
  Functions of the intermediate code, as they lie in memory (layer 17). 
-/
namespace Go.Proofs.YteknhnnlhhgppaaDoor
set_option linter.unusedVariables false
set_option linter.unusedSimpArgs false
open Go.RowKit

def isI64 (n : Int) : Prop := -9223372036854775808 ≤ n ∧ n ≤ 9223372036854775807
/-- an instruction as the language has it -/
structure Ins.Wf (i : Ins) : Prop where
  op0 : 0 ≤ i.op
  op1 : i.op ≤ 255
  dst : isI64 i.dst
  x : isI64 i.x
  y : isI64 i.y
  imm : isI64 i.imm
  sym : i.sym.size ≤ 9223372036854775807
/-- an instruction's six cells -/
structure InsAt (w : World) (b o : Nat) (i : Ins) : Prop where
  c0 : w.cell? ⟨b, o, none⟩ = some (.int .u8 i.op)
  c1 : w.cell? ⟨b, o + 1, none⟩ = some (.int .i64 i.dst)
  c2 : w.cell? ⟨b, o + 2, none⟩ = some (.int .i64 i.x)
  c3 : w.cell? ⟨b, o + 3, none⟩ = some (.int .i64 i.y)
  c4 : w.cell? ⟨b, o + 4, none⟩ = some (.int .i64 i.imm)
  c5 : w.cell? ⟨b, o + 5, none⟩ = some (.string i.sym)
/-- a row of instructions -/
structure CodeAt (w : World) (a : Option Addr) (l : List Ins) : Prop where
  fits : l.length ≤ 9223372036854775807
  wf : ∀ i ∈ l, i.Wf
  at_ : l.length = 0 ∨ ∃ b off, a = some ⟨b, off, none⟩ ∧ ∀ (k : Nat) (i : Ins), l[k]? = some i → InsAt w b (off + k * 6) i
structure Blk.Wf (b : Blk) : Prop where
  k0 : 0 ≤ b.kind
  k1 : b.kind ≤ 255
  x : isI64 b.x
  to : isI64 b.to
  els : isI64 b.els
/-- a block's five cells -/
structure BlkAt (w : World) (b o : Nat) (x : Blk) (a : Option Addr) (c : Nat) : Prop where
  c0 : w.cell? ⟨b, o, none⟩ = some (.slice a x.code.length c)
  c1 : w.cell? ⟨b, o + 1, none⟩ = some (.int .u8 x.kind)
  c2 : w.cell? ⟨b, o + 2, none⟩ = some (.int .i64 x.x)
  c3 : w.cell? ⟨b, o + 3, none⟩ = some (.int .i64 x.to)
  c4 : w.cell? ⟨b, o + 4, none⟩ = some (.int .i64 x.els)
/-- a row of blocks -/
structure BlksAt (w : World) (a : Option Addr) (l : List Blk) : Prop where
  fits : l.length ≤ 9223372036854775807
  wf : ∀ x ∈ l, x.Wf
  at_ : l.length = 0 ∨ ∃ b off, a = some ⟨b, off, none⟩ ∧ ∀ (k : Nat) (x : Blk), l[k]? = some x → ∃ ca cc, BlkAt w b (off + k * 5) x ca cc ∧ CodeAt w ca x.code
theorem cell_below {w w' : World} {b o : Nat} {v : Value} (hb : Below w.heap.size w w') (h : w.cell? ⟨b, o, none⟩ = some v) : w'.cell? ⟨b, o, none⟩ = some v :=
  (hb.cell (p := ⟨b, o, none⟩) (World.block_lt_of_cell? w _ h)).trans h
theorem InsAt.below {w w' : World} {b o : Nat} {i : Ins} (h : InsAt w b o i) (hb : Below w.heap.size w w') : InsAt w' b o i :=
  ⟨cell_below hb h.c0, cell_below hb h.c1, cell_below hb h.c2, cell_below hb h.c3, cell_below hb h.c4, cell_below hb h.c5⟩
theorem CodeAt.below {w w' : World} {a : Option Addr} {l : List Ins} (h : CodeAt w a l) (hb : Below w.heap.size w w') : CodeAt w' a l := by
  refine ⟨h.fits, h.wf, ?_⟩
  rcases h.at_ with h0 | ⟨b, off, ha, hk⟩
  · exact .inl h0
  · exact .inr ⟨b, off, ha, fun k i hi => (hk k i hi).below hb⟩
theorem BlkAt.below {w w' : World} {b o : Nat} {x : Blk} {a : Option Addr} {c : Nat} (h : BlkAt w b o x a c) (hb : Below w.heap.size w w') : BlkAt w' b o x a c :=
  ⟨cell_below hb h.c0, cell_below hb h.c1, cell_below hb h.c2, cell_below hb h.c3, cell_below hb h.c4⟩
theorem BlksAt.below {w w' : World} {a : Option Addr} {l : List Blk} (h : BlksAt w a l) (hb : Below w.heap.size w w') : BlksAt w' a l := by
  refine ⟨h.fits, h.wf, ?_⟩
  rcases h.at_ with h0 | ⟨b, off, ha, hk⟩
  · exact .inl h0
  · exact .inr ⟨b, off, ha, fun k x hx => by obtain ⟨ca, cc, h1, h2⟩ := hk k x hx; exact ⟨ca, cc, h1.below hb, h2.below hb⟩⟩
/-- a function: its rows -/
structure FnAt (w : World) (f : Fn) (aa ba : Option Addr) : Prop where
  arrays : ArrsAt w aa f.arrays
  blocks : BlksAt w ba f.blocks
  regs : isI64 f.regs
  name : f.name.size ≤ 9223372036854775807
theorem FnAt.below {w w' : World} {f : Fn} {aa ba : Option Addr} (h : FnAt w f aa ba) (hb : Below w.heap.size w w') : FnAt w' f aa ba := ⟨h.arrays.below hb, h.blocks.below hb, h.regs, h.name⟩
/-- what is held below is held where all of it lies below -/
theorem below_self {N : Nat} {w w' : World} (h : Below N w w') (hN : w.heap.size ≤ N) : Below w.heap.size w w' := h.mono hN
end Go.Proofs.YteknhnnlhhgppaaDoor

/-
  Contents of arrays in memory; contract: match (package ir).
-/
namespace Go.Proofs.YteknhnnlhhgppaaDoor
set_option linter.unusedVariables false
set_option linter.unusedSimpArgs false
open Go.RowKit
set_option maxRecDepth 100000

/-- a row of words -/
structure WordsAt (w : World) (a : Option Addr) (l : List Int) : Prop where
  fits : l.length ≤ 9223372036854775807
  words : ∀ x ∈ l, Wd.W x
  at_ : l.length = 0 ∨ ∃ b off, a = some ⟨b, off, none⟩ ∧ ∀ (k : Nat) (x : Int), l[k]? = some x → w.cell? ⟨b, off + k, none⟩ = some (.int .i32 x)
/-- rows of words -/
structure ContAt (w : World) (a : Option Addr) (l : List (List Int)) : Prop where
  fits : l.length ≤ 9223372036854775807
  at_ : l.length = 0 ∨ ∃ b off, a = some ⟨b, off, none⟩ ∧ ∀ (k : Nat) (r : List Int), l[k]? = some r → ∃ ra rc, w.cell? ⟨b, off + k, none⟩ = some (.slice ra r.length rc) ∧ (ra = none → rc = 0) ∧ WordsAt w ra r
theorem WordsAt.below {w w' : World} {a : Option Addr} {l : List Int} (h : WordsAt w a l) (hb : Below w.heap.size w w') : WordsAt w' a l := by
  refine ⟨h.fits, h.words, ?_⟩
  rcases h.at_ with h0 | ⟨b, off, ha, hk⟩
  · exact .inl h0
  · exact .inr ⟨b, off, ha, fun k x hx => cell_below hb (hk k x hx)⟩
theorem ContAt.below {w w' : World} {a : Option Addr} {l : List (List Int)} (h : ContAt w a l) (hb : Below w.heap.size w w') : ContAt w' a l := by
  refine ⟨h.fits, ?_⟩
  rcases h.at_ with h0 | ⟨b, off, ha, hk⟩
  · exact .inl h0
  · exact .inr ⟨b, off, ha, fun k r hr => by obtain ⟨ra, rc, h1, h2, h3⟩ := hk k r hr; exact ⟨ra, rc, cell_below hb h1, h2, h3.below hb⟩⟩

/-- whether contents have the declared lengths -/
def matchOk : List (ByteArray × Int) → List (List Int) → Bool
  | [], [] => true
  | p :: l, r :: m => (p.2 == (r.length : Int)) && matchOk l m
  | _, _ => false
theorem match_len {l : List (ByteArray × Int)} : ∀ {m : List (List Int)}, ¬ l.length = m.length → matchOk l m = false := by
  induction l with
  | nil => intro m h; cases m with | nil => exact absurd rfl h | cons _ _ => rfl
  | cons p l ih =>
    intro m h
    cases m with
    | nil => rfl
    | cons r m => show (_ && _) = _; rw [ih (fun e => h (by simp [e])), Bool.and_false]
theorem match_drop {l : List (ByteArray × Int)} {m : List (List Int)} {j : Nat} {p : ByteArray × Int} {r : List Int} (h1 : l[j]? = some p) (h2 : m[j]? = some r) : matchOk (l.drop j) (m.drop j) = ((p.2 == (r.length : Int)) && matchOk (l.drop (j + 1)) (m.drop (j + 1))) := by
  obtain ⟨hk, rfl⟩ := List.getElem?_eq_some_iff.1 h1
  obtain ⟨hk', rfl⟩ := List.getElem?_eq_some_iff.1 h2
  rw [List.drop_eq_getElem_cons hk, List.drop_eq_getElem_cons hk']
  rfl

set_option maxHeartbeats 4000000
theorem match1_any (p : ByteArray × Int) (a : Option Addr) (n c : Nat) (w : World) (hn : n ≤ 9223372036854775807) :
    Calls Tryd.prog 107 #[.agg #[.string p.1, .int .i64 p.2], .slice a n c] w fun e w' => e = .returned (.bool (p.2 == (n : Int))) ∧ Below w.heap.size w w' := by
  go_enter Tryd.func107, Tryd.ntmps107
  go_wp2_with fail
  go_ret
  exact ⟨rfl, (Below.refl _ _).alloc (Nat.le_refl _) _⟩
theorem equalRows_any (l : List (ByteArray × Int)) (m : List (List Int)) (a b : Option Addr) (c d : Nat) (w : World) (hl : ArrsAt w a l) (hm : ContAt w b m) :
    Calls Tryd.prog 106 #[.slice a l.length c, .slice b m.length d, .func (.func 107) #[] #[]] w fun e w' => e = .returned (.bool (matchOk l m)) ∧ Below w.heap.size w w' := by
  have HL := Lib.hid hl
  have HM := Lib.hid hm
  have hlf := hl.fits
  have hmf := hm.fits
  clear hl hm
  by_cases hlen : l.length = m.length
  · have q0 : ((l.length : Int) != (m.length : Int)) = false := by simp [hlen]
    have HLEN := Lib.hid hlen
    clear hlen
    go_enter Tryd.func106, Tryd.ntmps106
    go_wp2_with fail
    go_loopw [17] (fun i wr => ∃ j : Nat, j ≤ l.length ∧ i = .int .i64 j ∧ matchOk (l.drop j) (m.drop j) = matchOk l m ∧ Below w.heap.size w wr) (fun i _ => l.length - (intOf i).toNat)
    case atStart => exact ⟨0, Nat.zero_le _, rfl, rfl, Below.refl _ _⟩
    case round =>
      obtain ⟨j, hj, rfl, hd, hB⟩ := hrel
      have HD := Lib.hid hd
      have HB := Lib.hid hB
      have hBs := hB.size
      clear hd hB
      have hk0 : (0 : Int) ≤ (j : Int) := by omega
      by_cases hlt : j < l.length
      · obtain ⟨p, hp⟩ : ∃ p, l[j]? = some p := ⟨_, List.getElem?_eq_getElem hlt⟩
        obtain ⟨r, hr⟩ : ∃ r, m[j]? = some r := ⟨_, List.getElem?_eq_getElem (by have := HLEN.out; omega)⟩
        rcases HL.out.at_ with h0 | ⟨lb, lo, rfl, hc⟩
        · omega
        rcases HM.out.at_ with h0 | ⟨mb, mo, rfl, hd⟩
        · have := HLEN.out; omega
        obtain ⟨c1, c2⟩ := hc j p hp
        obtain ⟨ra, rc, c3, _, hra⟩ := hd j r hr
        have f1 := cell_below HB.out c1
        have f2 := cell_below HB.out c2
        have f3 := cell_below HB.out c3
        have hm9 : mb < wr.heap.size := World.block_lt_of_cell? _ _ f3
        have hrf := hra.fits
        have HS := Lib.hid (match_drop hp hr)
        have hk1 : (j : Int) < (l.length : Int) := by omega
        have hk2 : (j : Int) < (m.length : Int) := by have := HLEN.out; omega
        clear hc hd hp hr c1 c2 c3 hra
        cases he : (p.2 == (r.length : Int)) with
        | true =>
          have HN : Hid (matchOk (l.drop (j + 1)) (m.drop (j + 1)) = matchOk l m) := by show _ = _; rw [← HD.out, HS.out, he, Bool.true_and]
          have HE := Lib.hid he
          clear he
          go_wp2_with fail
          refine (match1_any p ra r.length rc _ hrf).mono ?_
          rintro e w2 ⟨rfl, hB2⟩
          rw [HE.out]
          have HB2 := Lib.hid ((HB.out.alloc hBs _).trans (hB2.mono (by simp; omega)))
          clear hB2
          go_wp2_with fail
          go_roundw
          case rel => exact ⟨j + 1, by omega, by go_num, HN.out, HB2.out⟩
          case measure => simp [intOf]; omega
        | false =>
          have HN : Hid (matchOk l m = false) := by show _ = _; rw [← HD.out, HS.out, he, Bool.false_and]
          have HE := Lib.hid he
          clear he
          go_wp2_with fail
          refine (match1_any p ra r.length rc _ hrf).mono ?_
          rintro e w2 ⟨rfl, hB2⟩
          rw [HE.out]
          have HB2 := Lib.hid ((HB.out.alloc hBs _).trans (hB2.mono (by simp; omega)))
          clear hB2
          go_wp2_with fail
          go_ret
          exact ⟨by rw [HN.out]; rfl, HB2.out⟩
      · obtain rfl : j = l.length := by omega
        have HN : Hid (matchOk l m = true) := by show _ = _; rw [← HD.out, List.drop_length, HLEN.out, List.drop_length]; rfl
        go_wp2_with fail
        go_ret
        exact ⟨by rw [HN.out]; rfl, HB.out⟩
  · have q0 : ((l.length : Int) != (m.length : Int)) = true := by simp; omega
    rw [match_len hlen]
    go_enter Tryd.func106, Tryd.ntmps106
    go_wp2_with fail
    go_ret
    exact ⟨rfl, Below.refl _ _⟩
theorem match_any (l : List (ByteArray × Int)) (m : List (List Int)) (a b : Option Addr) (c d : Nat) (w : World) (hl : ArrsAt w a l) (hm : ContAt w b m) :
    Calls Tryd.prog 89 #[.slice a l.length c, .slice b m.length d] w fun e w' => e = .returned (.bool (matchOk l m)) ∧ Below w.heap.size w w' := by
  go_enter Tryd.func89, Tryd.ntmps89
  go_wp2_with fail
  refine (equalRows_any l m a b c d _ hl hm).mono ?_
  rintro e w1 ⟨rfl, hB1⟩
  go_wp2_with fail
  go_ret
  exact ⟨rfl, hB1⟩
end Go.Proofs.YteknhnnlhhgppaaDoor
