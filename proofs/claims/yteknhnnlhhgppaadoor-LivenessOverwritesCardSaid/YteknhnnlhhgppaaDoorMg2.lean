/-
  Mg2: several texts in one (IrIns, Append, IrMatch).
-/
import Derived.Test.YteknhnnlhhgppaaDoorMg1
import Derived.WalkKit
import Derived.Test.YteknhnnlhhgppaaDoorMg0
/-
  Contract: validIns (package ir).
-/
namespace Go.Proofs.YteknhnnlhhgppaaDoor
set_option linter.unusedVariables false
set_option linter.unusedSimpArgs false
open Go.RowKit
set_option maxRecDepth 100000

/-- whether a number is between two others; whether it is a register -/
def betw (n lo hi : Int) : Bool := decide (lo ≤ n) && decide (n ≤ hi)
def inReg (n regs : Int) : Bool := decide (0 ≤ n) && decide (n < regs)
/-- whether an instruction is valid, from the tests of its operands -/
def insOk (regs : Int) (names : List (ByteArray × Bool)) (i : Ins) : Bool :=
  bif i.op == 1 then inReg i.dst regs && betw i.imm (-2147483648) 2147483647 && i.x == 0 && i.y == 0 && i.sym.toList.isEmpty
  else bif i.op == 2 then inReg i.dst regs && inReg i.x regs && i.y == 0 && i.imm == 0 && i.sym.toList.isEmpty
  else bif i.op == 3 then inReg i.dst regs && inReg i.x regs && inReg i.y regs && betw i.imm 6 23 && i.sym.toList.isEmpty
  else bif i.op == 4 || i.op == 6 then inReg i.dst regs && inReg i.x regs && (lookB names i.sym == some (i.op == 4)) && i.y == 0 && i.imm == 0
  else bif i.op == 5 || i.op == 7 then inReg i.x regs && inReg i.y regs && (lookB names i.sym == some (i.op == 5)) && i.dst == 0 && i.imm == 0
  else bif i.op == 8 then inReg i.x regs && betw i.imm 1 131071 && i.dst == 0 && i.y == 0 && i.sym.toList.isEmpty
  else bif i.op == 9 then inReg i.dst regs && betw i.imm 0 7 && i.x == 0 && i.y == 0 && i.sym.toList.isEmpty
  else bif i.op == 10 then inReg i.x regs && betw i.imm 0 7 && i.dst == 0 && i.y == 0 && i.sym.toList.isEmpty
  else bif i.op == 11 || i.op == 12 then (lookB names i.sym == some false) && i.dst == 0 && i.x == 0 && i.y == 0 && i.imm == 0
  else bif i.op == 13 || i.op == 14 then betw i.imm 0 3 && i.dst == 0 && i.x == 0 && i.y == 0 && i.sym.toList.isEmpty
  else bif i.op == 15 then inReg i.dst regs && betw i.imm 0 3 && i.x == 0 && i.y == 0 && i.sym.toList.isEmpty
  else bif i.op == 16 then betw i.x 0 3 && betw i.imm 1 131071 && i.dst == 0 && i.y == 0 && i.sym.toList.isEmpty
  else false

set_option maxHeartbeats 16000000 in
theorem validIns_any (name : ByteArray) (regs : Int) (aa ba : Option Addr) (an ac bn bc : Nat) (names : List (ByteArray × Bool)) (mb : Nat) (i : Ins) (w : World) (hs : i.sym.size ≤ 9223372036854775807) (hm : MapAt Tryd.prog 9 w mb (symMap names)) :
    Calls Tryd.prog 104 #[fnVal name regs aa an ac ba bn bc, .map (some mb), i.val] w fun e w' => e = .returned (.bool (insOk regs names i)) ∧ Below w.heap.size w w' := by
  unfold Ins.val
  obtain ⟨W, hW⟩ : ∃ W : World, ((w.alloc (.cells #[.string name, .int .i64 regs, .slice aa an ac, .slice ba bn bc] 25)).alloc (.cells #[.map (some mb)] 163)).alloc (.cells #[.int .u8 i.op, .int .i64 i.dst, .int .i64 i.x, .int .i64 i.y, .int .i64 i.imm, .string i.sym] 54) = W := ⟨_, rfl⟩
  have hB : Below w.heap.size w W := by rw [← hW]; exact (((Below.refl _ _).alloc (Nat.le_refl _) _).alloc (by simp) _).alloc (by simp; omega) _
  have HM := Lib.hid (hm.below hB)
  have HB := Lib.hid hB
  have f1 : W.cell? ⟨w.heap.size, 1, none⟩ = some (.int .i64 regs) := by rw [← hW, World.cell?_alloc_past _ _ _ (by simp; omega), World.cell?_alloc_past _ _ _ (by simp)]; simp
  have m0 : W.cell? ⟨w.heap.size + 1, 0, none⟩ = some (.map (some mb)) := by rw [← hW]; simp [World.cell?_alloc_at, World.cell?_alloc_past]
  have c0 : W.cell? ⟨w.heap.size + 1 + 1, 0, none⟩ = some (.int .u8 i.op) := by rw [← hW]; simp [World.cell?_alloc_at, World.cell?_alloc_past]
  have c1 : W.cell? ⟨w.heap.size + 1 + 1, 1, none⟩ = some (.int .i64 i.dst) := by rw [← hW]; simp [World.cell?_alloc_at, World.cell?_alloc_past]
  have c2 : W.cell? ⟨w.heap.size + 1 + 1, 2, none⟩ = some (.int .i64 i.x) := by rw [← hW]; simp [World.cell?_alloc_at, World.cell?_alloc_past]
  have c3 : W.cell? ⟨w.heap.size + 1 + 1, 3, none⟩ = some (.int .i64 i.y) := by rw [← hW]; simp [World.cell?_alloc_at, World.cell?_alloc_past]
  have c4 : W.cell? ⟨w.heap.size + 1 + 1, 4, none⟩ = some (.int .i64 i.imm) := by rw [← hW]; simp [World.cell?_alloc_at, World.cell?_alloc_past]
  have c5 : W.cell? ⟨w.heap.size + 1 + 1, 5, none⟩ = some (.string i.sym) := by rw [← hW]; simp [World.cell?_alloc_at, World.cell?_alloc_past]
  clear hm hB
  go_enter Tryd.func104, Tryd.ntmps104
  go_wp2_with fail
  clear hW
  go_quiet (fail)
  generalize hV : World.drewN _ _ = V
  have HBV : Hid (Below w.heap.size w V) := by rw [← hV]; exact ⟨HB.out.os, HB.out.tape, HB.out.output, HB.out.size, HB.out.block⟩
  have HMV : Hid (MapAt Tryd.prog 9 V mb (symMap names)) := by rw [← hV]; exact HM.out.move rfl
  have g1 : V.cell? ⟨w.heap.size, 1, none⟩ = some (.int .i64 regs) := by rw [← hV]; exact f1
  have n0 : V.cell? ⟨w.heap.size + 1, 0, none⟩ = some (.map (some mb)) := by rw [← hV]; exact m0
  have d0 : V.cell? ⟨w.heap.size + 1 + 1, 0, none⟩ = some (.int .u8 i.op) := by rw [← hV]; exact c0
  have d1 : V.cell? ⟨w.heap.size + 1 + 1, 1, none⟩ = some (.int .i64 i.dst) := by rw [← hV]; exact c1
  have d2 : V.cell? ⟨w.heap.size + 1 + 1, 2, none⟩ = some (.int .i64 i.x) := by rw [← hV]; exact c2
  have d3 : V.cell? ⟨w.heap.size + 1 + 1, 3, none⟩ = some (.int .i64 i.y) := by rw [← hV]; exact c3
  have d4 : V.cell? ⟨w.heap.size + 1 + 1, 4, none⟩ = some (.int .i64 i.imm) := by rw [← hV]; exact c4
  have d5 : V.cell? ⟨w.heap.size + 1 + 1, 5, none⟩ = some (.string i.sym) := by rw [← hV]; exact c5
  clear hV f1 m0 c0 c1 c2 c3 c4 c5 HB HM W
  obtain ⟨rd, hrd⟩ : ∃ b, inReg i.dst regs = b := ⟨_, rfl⟩
  obtain ⟨rx, hrx⟩ : ∃ b, inReg i.x regs = b := ⟨_, rfl⟩
  obtain ⟨ry, hry⟩ : ∃ b, inReg i.y regs = b := ⟨_, rfl⟩
  have RD : Hid (∀ n, Calls Tryd.prog 115 #[.int .i64 i.dst, .pointer (some ⟨w.heap.size, 0, none⟩)] (World.drewN V n) (fun e w'' => e = .returned (.bool rd) ∧ ∃ m, w'' = V.drewN m)) := fun n => (isReg_any i.dst regs _ 0 (V.drewN n) g1).mono fun e w'' ⟨h1, h2⟩ => ⟨by rw [h1, ← hrd]; rfl, n, h2.symm⟩
  have RX : Hid (∀ n, Calls Tryd.prog 115 #[.int .i64 i.x, .pointer (some ⟨w.heap.size, 0, none⟩)] (World.drewN V n) (fun e w'' => e = .returned (.bool rx) ∧ ∃ m, w'' = V.drewN m)) := fun n => (isReg_any i.x regs _ 0 (V.drewN n) g1).mono fun e w'' ⟨h1, h2⟩ => ⟨by rw [h1, ← hrx]; rfl, n, h2.symm⟩
  have RY : Hid (∀ n, Calls Tryd.prog 115 #[.int .i64 i.y, .pointer (some ⟨w.heap.size, 0, none⟩)] (World.drewN V n) (fun e w'' => e = .returned (.bool ry) ∧ ∃ m, w'' = V.drewN m)) := fun n => (isReg_any i.y regs _ 0 (V.drewN n) g1).mono fun e w'' ⟨h1, h2⟩ => ⟨by rw [h1, ← hry]; rfl, n, h2.symm⟩
  have HRD := Lib.hid hrd
  have HRX := Lib.hid hrx
  have HRY := Lib.hid hry
  clear hrd hrx hry
  go_wp2_with fail
  go_quiet (first | (go_at_call 115; with_reducible exact RD.out _) | (go_at_call 115; with_reducible exact RX.out _) | (go_at_call 115; with_reducible exact RY.out _))
  generalize hU : World.drewN _ _ = U
  have HBU : Hid (Below w.heap.size w U) := by rw [← hU]; exact ⟨HBV.out.os, HBV.out.tape, HBV.out.output, HBV.out.size, HBV.out.block⟩
  have HMU : Hid (MapAt Tryd.prog 9 U mb (symMap names)) := by rw [← hU]; exact HMV.out.move rfl
  have k0 : U.cell? ⟨w.heap.size + 1, 0, none⟩ = some (.map (some mb)) := by rw [← hU]; exact n0
  have e0 : U.cell? ⟨w.heap.size + 1 + 1, 0, none⟩ = some (.int .u8 i.op) := by rw [← hU]; exact d0
  have e2 : U.cell? ⟨w.heap.size + 1 + 1, 2, none⟩ = some (.int .i64 i.x) := by rw [← hU]; exact d2
  have e4 : U.cell? ⟨w.heap.size + 1 + 1, 4, none⟩ = some (.int .i64 i.imm) := by rw [← hU]; exact d4
  have e5 : U.cell? ⟨w.heap.size + 1 + 1, 5, none⟩ = some (.string i.sym) := by rw [← hU]; exact d5
  clear hU g1 n0 d0 d1 d2 d3 d4 d5 HBV HMV RD RX RY V
  go_wp2_with (first
    | (go_at_call 114; refine (between_any _ _ _ _).mono ?_; rintro e w' ⟨rfl, rfl⟩)
    | (go_at_call 116; refine (symbol_any _ names mb _ _ 0 0 i.sym _ hs k0 e5 HMU.out).mono ?_; rintro e w' ⟨rfl, rfl⟩))
  all_goals
    go_ret
    refine ⟨ret_bool ?_, HBU.out⟩
    have q1 := HRD.out
    have q2 := HRX.out
    have q3 := HRY.out
    simp [insOk, betw, *]
end Go.Proofs.YteknhnnlhhgppaaDoor

/-
  A law for append on a row of the call's own that also says where the new row lies. No program is named here.
-/
namespace Go.Proofs.YteknhnnlhhgppaaDoor
set_option linter.unusedVariables false
set_option linter.unusedSimpArgs false
open Go.RowKit

theorem grown_any {w w' : World} {row : Option Nat} (h : w.grownBy w' none) : w.grownBy w' row :=
  ⟨h.os, h.tape, h.output, h.size, fun k hk _ => h.block k hk (by simp)⟩
theorem ownsRow_base {w : World} {base base' : Nat} {e : TypeId} {size : Nat} {v : Value} {n : Nat} {xs : List Value} (h : w.ownsRow base e size v n xs) (hb : base' ≤ base) : w.ownsRow base' e size v n xs := by
  obtain ⟨h1, h2⟩ := h
  refine ⟨h1, ?_⟩
  rcases h2 with h2 | ⟨g, cap, cur, hv, hg, r⟩
  · exact .inl h2
  · exact .inr ⟨g, cap, cur, hv, Nat.le_trans hb hg, r⟩
theorem ownsRow_below {w w' : World} {base : Nat} {e : TypeId} {size : Nat} {v : Value} {n : Nat} {xs : List Value} (h : w.ownsRow base e size v n xs) (hb : Below w.heap.size w w') : w'.ownsRow base e size v n xs := by
  obtain ⟨h1, h2⟩ := h
  refine ⟨h1, ?_⟩
  rcases h2 with h2 | ⟨g, cap, cur, hv, hg, hc, r⟩
  · exact .inl h2
  · exact .inr ⟨g, cap, cur, hv, hg, (hb.block g (Array.getElem?_eq_some_iff.1 hc).1).trans hc, r⟩
/-- where a row lies: nowhere, or in its block -/
theorem ownsRow_form {w : World} {base : Nat} {e : TypeId} {size : Nat} {v : Value} {n : Nat} {xs : List Value} (h : w.ownsRow base e size v n xs) :
    (v = .slice none 0 0 ∧ n = 0) ∨ ∃ g cap, v = .slice (some ⟨g, 0, none⟩) n cap ∧ base ≤ g ∧ g < w.heap.size ∧ n ≤ cap := by
  rcases h.2 with h2 | ⟨g, cap, cur, hv, hg, hc, hn, r⟩
  · exact .inl h2
  · exact .inr ⟨g, cap, hv, hg, (Array.getElem?_eq_some_iff.1 hc).1, hn⟩

/-- append to a nil slice or a row of the call's own: the new row lies where the old one lay, or in a new block -/
theorem wpList_append_row {P : Program} (w : World) {ops : Array Oper} {rest : List Oper} {o : Oper} {a : Act} {Q : Exit → Act → World → Prop}
    (hg : o.guard = none) (s x : Operand) (t : TypeId) (hop : o.op = Op.call { callee := Callee.builtin Builtin.append, args := #[s, x], argTypes := #[t, t] })
    (base : Nat) (e : TypeId) (i : TypeInfo) (z : Value) (size bytes : Nat) (h1 : P.underlying t = some (.slice e)) (h2 : P.info? e = some i) (h3 : i.zero = some z) (h4 : i.size = size) (h5 : i.bytes = bytes) (h6 : z.cells.size = size) (h7 : 0 < size)
    (v : Value) (n : Nat) (xs : List Value) (hs : a.eval s = v) (hown : w.ownsRow base e size v n xs)
    (ad : Addr) (m c : Nat) (news : List Value) (hx : a.eval x = .slice (some ad) m c) (hn : news.length = m * size) (hc : ∀ j u, news[j]? = some u → w.cell? (ad.add j) = some u) (h1c : ∀ u ∈ news, u.oneCell' = true)
    (hm : 0 < m) (b1 : n + m ≤ maxLen) (b2 : (n + m) * bytes ≤ 140737488355328) (hbase : base ≤ w.heap.size)
    (hK : ∀ g cap w', w'.ownsRow base e size (.slice (some ⟨g, 0, none⟩) (n + m) cap) (n + m) (xs ++ news) → w.grownBy w' v.ownBlock → (v.ownBlock = some g ∨ w.heap.size ≤ g) → wpList P ops Q rest (a.put o.dst (.slice (some ⟨g, 0, none⟩) (n + m) cap)) w') :
    wpList P ops Q (o :: rest) a w := by
  have out : ∀ v' w', w'.ownsRow w.heap.size e size v' (n + m) (xs ++ news) → w.grownBy w' none → wpList P ops Q rest (a.put o.dst v') w' := by
    intro v' w' r1 r2
    rcases ownsRow_form r1 with ⟨_, h0⟩ | ⟨g', cap', rfl, hg', _, _⟩
    · omega
    · exact hK g' cap' w' (ownsRow_base r1 hbase) (grown_any r2) (.inr hg')
  rcases ownsRow_form hown with ⟨rfl, rfl⟩ | ⟨g, cap, rfl, hgb, hgl, hcap⟩
  · have hx0 : xs = [] := List.length_eq_zero_iff.1 (by rw [hown.1]; omega)
    exact wpList_append_grows w hg s x t hop e i z size bytes h1 h2 h3 h4 h5 h6 h7 none 0 0 xs hs (fun _ => ⟨rfl, rfl⟩) (by rw [hx0]; simp) (fun b h => by cases h) ad m c news hx hn hc h1c (by omega) b1 b2 out
  · by_cases hf : n + m ≤ cap
    · exact wpList_append_fits w hg s x t hop base e i size h1 h2 h4 g n cap xs hs hown ad m c news hx hn hc h1c hf (fun w' r1 r2 => hK g cap w' r1 r2 (.inl rfl))
    · refine wpList_append_grows w hg s x t hop e i z size bytes h1 h2 h3 h4 h5 h6 h7 (some ⟨g, 0, none⟩) n cap xs hs (fun h => by cases h) hown.1 (fun b hb j u hu => ?_) ad m c news hx hn hc h1c (by omega) b1 b2 out
      cases hb
      exact hown.cells rfl j u hu
end Go.Proofs.YteknhnnlhhgppaaDoor

/-
  Contents of arrays in memory; contract: match (package ir).
-/
namespace Go.Proofs.YteknhnnlhhgppaaDoor
set_option linter.unusedVariables false
set_option linter.unusedSimpArgs false
open Go.RowKit
set_option maxRecDepth 100000

/-- a row of words -/
structure WordsAt (w : World) (a : Option Addr) (l : List Int) : Prop where
  fits : l.length ≤ 9223372036854775807
  words : ∀ x ∈ l, Wd.W x
  at_ : l.length = 0 ∨ ∃ b off, a = some ⟨b, off, none⟩ ∧ ∀ (k : Nat) (x : Int), l[k]? = some x → w.cell? ⟨b, off + k, none⟩ = some (.int .i32 x)
/-- rows of words -/
structure ContAt (w : World) (a : Option Addr) (l : List (List Int)) : Prop where
  fits : l.length ≤ 9223372036854775807
  at_ : l.length = 0 ∨ ∃ b off, a = some ⟨b, off, none⟩ ∧ ∀ (k : Nat) (r : List Int), l[k]? = some r → ∃ ra rc, w.cell? ⟨b, off + k, none⟩ = some (.slice ra r.length rc) ∧ (ra = none → rc = 0) ∧ WordsAt w ra r
theorem WordsAt.below {w w' : World} {a : Option Addr} {l : List Int} (h : WordsAt w a l) (hb : Below w.heap.size w w') : WordsAt w' a l := by
  refine ⟨h.fits, h.words, ?_⟩
  rcases h.at_ with h0 | ⟨b, off, ha, hk⟩
  · exact .inl h0
  · exact .inr ⟨b, off, ha, fun k x hx => cell_below hb (hk k x hx)⟩
theorem ContAt.below {w w' : World} {a : Option Addr} {l : List (List Int)} (h : ContAt w a l) (hb : Below w.heap.size w w') : ContAt w' a l := by
  refine ⟨h.fits, ?_⟩
  rcases h.at_ with h0 | ⟨b, off, ha, hk⟩
  · exact .inl h0
  · exact .inr ⟨b, off, ha, fun k r hr => by obtain ⟨ra, rc, h1, h2, h3⟩ := hk k r hr; exact ⟨ra, rc, cell_below hb h1, h2, h3.below hb⟩⟩

/-- whether contents have the declared lengths -/
def matchOk : List (ByteArray × Int) → List (List Int) → Bool
  | [], [] => true
  | p :: l, r :: m => (p.2 == (r.length : Int)) && matchOk l m
  | _, _ => false
theorem match_len {l : List (ByteArray × Int)} : ∀ {m : List (List Int)}, ¬ l.length = m.length → matchOk l m = false := by
  induction l with
  | nil => intro m h; cases m with | nil => exact absurd rfl h | cons _ _ => rfl
  | cons p l ih =>
    intro m h
    cases m with
    | nil => rfl
    | cons r m => show (_ && _) = _; rw [ih (fun e => h (by simp [e])), Bool.and_false]
theorem match_drop {l : List (ByteArray × Int)} {m : List (List Int)} {j : Nat} {p : ByteArray × Int} {r : List Int} (h1 : l[j]? = some p) (h2 : m[j]? = some r) : matchOk (l.drop j) (m.drop j) = ((p.2 == (r.length : Int)) && matchOk (l.drop (j + 1)) (m.drop (j + 1))) := by
  obtain ⟨hk, rfl⟩ := List.getElem?_eq_some_iff.1 h1
  obtain ⟨hk', rfl⟩ := List.getElem?_eq_some_iff.1 h2
  rw [List.drop_eq_getElem_cons hk, List.drop_eq_getElem_cons hk']
  rfl

set_option maxHeartbeats 4000000
theorem match1_any (p : ByteArray × Int) (a : Option Addr) (n c : Nat) (w : World) (hn : n ≤ 9223372036854775807) :
    Calls Tryd.prog 107 #[.agg #[.string p.1, .int .i64 p.2], .slice a n c] w fun e w' => e = .returned (.bool (p.2 == (n : Int))) ∧ Below w.heap.size w w' := by
  go_enter Tryd.func107, Tryd.ntmps107
  go_wp2_with fail
  go_ret
  exact ⟨rfl, (Below.refl _ _).alloc (Nat.le_refl _) _⟩
theorem equalRows_any (l : List (ByteArray × Int)) (m : List (List Int)) (a b : Option Addr) (c d : Nat) (w : World) (hl : ArrsAt w a l) (hm : ContAt w b m) :
    Calls Tryd.prog 106 #[.slice a l.length c, .slice b m.length d, .func (.func 107) #[] #[]] w fun e w' => e = .returned (.bool (matchOk l m)) ∧ Below w.heap.size w w' := by
  have HL := Lib.hid hl
  have HM := Lib.hid hm
  have hlf := hl.fits
  have hmf := hm.fits
  clear hl hm
  by_cases hlen : l.length = m.length
  · have q0 : ((l.length : Int) != (m.length : Int)) = false := by simp [hlen]
    have HLEN := Lib.hid hlen
    clear hlen
    go_enter Tryd.func106, Tryd.ntmps106
    go_wp2_with fail
    go_loopw [17] (fun i wr => ∃ j : Nat, j ≤ l.length ∧ i = .int .i64 j ∧ matchOk (l.drop j) (m.drop j) = matchOk l m ∧ Below w.heap.size w wr) (fun i _ => l.length - (intOf i).toNat)
    case atStart => exact ⟨0, Nat.zero_le _, rfl, rfl, Below.refl _ _⟩
    case round =>
      obtain ⟨j, hj, rfl, hd, hB⟩ := hrel
      have HD := Lib.hid hd
      have HB := Lib.hid hB
      have hBs := hB.size
      clear hd hB
      have hk0 : (0 : Int) ≤ (j : Int) := by omega
      by_cases hlt : j < l.length
      · obtain ⟨p, hp⟩ : ∃ p, l[j]? = some p := ⟨_, List.getElem?_eq_getElem hlt⟩
        obtain ⟨r, hr⟩ : ∃ r, m[j]? = some r := ⟨_, List.getElem?_eq_getElem (by have := HLEN.out; omega)⟩
        rcases HL.out.at_ with h0 | ⟨lb, lo, rfl, hc⟩
        · omega
        rcases HM.out.at_ with h0 | ⟨mb, mo, rfl, hd⟩
        · have := HLEN.out; omega
        obtain ⟨c1, c2⟩ := hc j p hp
        obtain ⟨ra, rc, c3, _, hra⟩ := hd j r hr
        have f1 := cell_below HB.out c1
        have f2 := cell_below HB.out c2
        have f3 := cell_below HB.out c3
        have hm9 : mb < wr.heap.size := World.block_lt_of_cell? _ _ f3
        have hrf := hra.fits
        have HS := Lib.hid (match_drop hp hr)
        have hk1 : (j : Int) < (l.length : Int) := by omega
        have hk2 : (j : Int) < (m.length : Int) := by have := HLEN.out; omega
        clear hc hd hp hr c1 c2 c3 hra
        cases he : (p.2 == (r.length : Int)) with
        | true =>
          have HN : Hid (matchOk (l.drop (j + 1)) (m.drop (j + 1)) = matchOk l m) := by show _ = _; rw [← HD.out, HS.out, he, Bool.true_and]
          have HE := Lib.hid he
          clear he
          go_wp2_with fail
          refine (match1_any p ra r.length rc _ hrf).mono ?_
          rintro e w2 ⟨rfl, hB2⟩
          rw [HE.out]
          have HB2 := Lib.hid ((HB.out.alloc hBs _).trans (hB2.mono (by simp; omega)))
          clear hB2
          go_wp2_with fail
          go_roundw
          case rel => exact ⟨j + 1, by omega, by go_num, HN.out, HB2.out⟩
          case measure => simp [intOf]; omega
        | false =>
          have HN : Hid (matchOk l m = false) := by show _ = _; rw [← HD.out, HS.out, he, Bool.false_and]
          have HE := Lib.hid he
          clear he
          go_wp2_with fail
          refine (match1_any p ra r.length rc _ hrf).mono ?_
          rintro e w2 ⟨rfl, hB2⟩
          rw [HE.out]
          have HB2 := Lib.hid ((HB.out.alloc hBs _).trans (hB2.mono (by simp; omega)))
          clear hB2
          go_wp2_with fail
          go_ret
          exact ⟨by rw [HN.out]; rfl, HB2.out⟩
      · obtain rfl : j = l.length := by omega
        have HN : Hid (matchOk l m = true) := by show _ = _; rw [← HD.out, List.drop_length, HLEN.out, List.drop_length]; rfl
        go_wp2_with fail
        go_ret
        exact ⟨by rw [HN.out]; rfl, HB.out⟩
  · have q0 : ((l.length : Int) != (m.length : Int)) = true := by simp; omega
    rw [match_len hlen]
    go_enter Tryd.func106, Tryd.ntmps106
    go_wp2_with fail
    go_ret
    exact ⟨rfl, Below.refl _ _⟩
theorem match_any (l : List (ByteArray × Int)) (m : List (List Int)) (a b : Option Addr) (c d : Nat) (w : World) (hl : ArrsAt w a l) (hm : ContAt w b m) :
    Calls Tryd.prog 89 #[.slice a l.length c, .slice b m.length d] w fun e w' => e = .returned (.bool (matchOk l m)) ∧ Below w.heap.size w w' := by
  go_enter Tryd.func89, Tryd.ntmps89
  go_wp2_with fail
  refine (equalRows_any l m a b c d _ hl hm).mono ?_
  rintro e w1 ⟨rfl, hB1⟩
  go_wp2_with fail
  go_ret
  exact ⟨rfl, hB1⟩
end Go.Proofs.YteknhnnlhhgppaaDoor
