/-
  PlainBase: several texts in one (WordPlain, IrMap, FMap).
-/
import Derived.WalkKit
import Derived.Maps.OwnSet
import Derived.Maps.OwnOps
import Derived.Below
/-
  Plain definitions and lemmas on 32-bit words: what word.Apply and word.Unary compute. No program is named here.
-/
namespace Go.Proofs.YtgochgcchkdlmaaDoor.Wd
set_option linter.unusedVariables false
set_option linter.unusedSimpArgs false
open Go.RowKit

def tr (b : Bool) : Int := if b then 1 else 0

/-- the value of a binary operator -/
def apply (k x y : Int) : Int :=
  if k = 6 then wrap32 (x + y)
  else if k = 7 then wrap32 (x - y)
  else if k = 8 then wrap32 (x * y)
  else if k = 9 then (if y = 0 then 0 else wrap32 (x.tdiv y))
  else if k = 10 then (if y = 0 then 0 else x.tmod y)
  else if k = 11 then bits .and .i32 x y
  else if k = 12 then bits .or .i32 x y
  else if k = 13 then bits .xor .i32 x y
  else if k = 14 then wrap32 (x * 2 ^ (y % 32).toNat)
  else if k = 15 then x / 2 ^ (y % 32).toNat
  else if k = 16 then tr (x == y)
  else if k = 17 then tr (x != y)
  else if k = 18 then tr (decide (x < y))
  else if k = 19 then tr (decide (x ≤ y))
  else if k = 20 then tr (decide (y < x))
  else if k = 21 then tr (decide (y ≤ x))
  else if k = 22 then tr (x != 0 && y != 0)
  else if k = 23 then tr (x != 0 || y != 0)
  else 0

/-- its error number -/
def err (k y : Int) : Int :=
  if k < 6 ∨ 23 < k then 1 else if (k = 9 ∨ k = 10) ∧ y = 0 then 9 else 0

def unary (k x : Int) : Int := if k = 4 then wrap32 (-x) else if k = 5 then tr (x == 0) else 0
def uerr (k : Int) : Int := if k = 4 ∨ k = 5 then 0 else 1

/-- a word -/
def W (x : Int) : Prop := -2147483648 ≤ x ∧ x ≤ 2147483647

theorem W_wrap (n : Int) : W (wrap32 n) := by unfold W wrap32; omega
theorem W_tr (b : Bool) : W (tr b) := by unfold W tr; split <;> omega
theorem W_wf {x : Int} (h : (Lit.int .i32 x).wf = true) : W x := by
  simpa [W, Lit.wf, IntKind.min, IntKind.max, IntKind.signed, IntKind.bits] using h

theorem bits_wrap (op : BinOp) (x y : Int) : W (bits op .i32 x y) := by
  have h : ∃ n : Int, bits op .i32 x y = IntKind.i32.wrap n := by
    unfold bits
    split <;> exact ⟨_, rfl⟩
  obtain ⟨n, h⟩ := h
  rw [h, IntWalk.i32_left]
  exact W_wrap n
theorem W_shr {x : Int} (h : W x) (n : Nat) : W (x / 2 ^ n) := by
  have hp : (0 : Int) < 2 ^ n := Int.pow_pos (by omega)
  unfold W at *
  constructor
  · rw [Int.le_ediv_iff_mul_le hp]
    have h1 : (1 : Int) ≤ 2 ^ n := hp
    have : (-2147483648 : Int) * 2 ^ n ≤ -2147483648 * 1 := Int.mul_le_mul_of_nonpos_left (by omega) h1
    omega
  · by_cases h0 : 0 ≤ x
    · have := Int.ediv_le_self (2 ^ n) h0; omega
    · have : x / 2 ^ n < 0 := Int.ediv_neg_of_neg_of_pos (by omega) hp
      omega
theorem W_tmod {x y : Int} (h : W x) : W (x.tmod y) := by
  unfold W at *
  have := Int.natAbs_tmod x y
  have h2 : x.natAbs % y.natAbs ≤ x.natAbs := Nat.mod_le _ _
  by_cases h0 : 0 ≤ x
  · have := Int.tmod_nonneg y h0; omega
  · have : x.tmod y = -((-x).tmod y) := by rw [Int.neg_tmod]; simp
    have := Int.tmod_nonneg y (show 0 ≤ -x by omega); omega

theorem W_ite {c : Prop} [Decidable c] {a b : Int} (ha : W a) (hb : W b) : W (if c then a else b) := by split <;> assumption
theorem W_apply {x y : Int} (k : Int) (hx : W x) (_hy : W y) : W (apply k x y) := by
  unfold apply
  have z : W 0 := by unfold W; omega
  repeat' (first | exact z | exact W_wrap _ | exact W_tr _ | exact bits_wrap _ _ _ | exact W_shr hx _ | exact W_tmod hx | refine W_ite ?_ ?_)
theorem W_unary (k x : Int) : W (unary k x) := by
  unfold unary
  have z : W 0 := by unfold W; omega
  repeat' (first | exact z | exact W_wrap _ | exact W_tr _ | split)

/-! ### each operator by itself -/
theorem a6 (x y : Int) : apply 6 x y = wrap32 (x + y) := rfl
theorem a7 (x y : Int) : apply 7 x y = wrap32 (x - y) := rfl
theorem a8 (x y : Int) : apply 8 x y = wrap32 (x * y) := rfl
theorem a9 (x y : Int) : apply 9 x y = if y = 0 then 0 else wrap32 (x.tdiv y) := rfl
theorem a10 (x y : Int) : apply 10 x y = if y = 0 then 0 else x.tmod y := rfl
theorem a11 (x y : Int) : apply 11 x y = bits .and .i32 x y := rfl
theorem a12 (x y : Int) : apply 12 x y = bits .or .i32 x y := rfl
theorem a13 (x y : Int) : apply 13 x y = bits .xor .i32 x y := rfl
theorem aelse (k x y : Int) (h : k < 6 ∨ 23 < k) : apply k x y = 0 := by
  unfold apply
  repeat rw [if_neg (by omega)]
theorem eelse (k y : Int) (h : k < 6 ∨ 23 < k) : err k y = 1 := by unfold err; rw [if_pos h]
theorem e0 (k y : Int) (h : 6 ≤ k ∧ k ≤ 23) (h2 : ¬ ((k = 9 ∨ k = 10) ∧ y = 0)) : err k y = 0 := by
  unfold err; rw [if_neg (by omega), if_neg h2]
end Go.Proofs.YtgochgcchkdlmaaDoor.Wd

/-
  Maps from strings to values, made by the call itself: what they hold, as a list of pairs. No program is named here.
-/
namespace Go.Proofs.YtgochgcchkdlmaaDoor
set_option linter.unusedVariables false
set_option linter.unusedSimpArgs false
open Go.RowKit Go.Maps

/-- an element reads as itself -/
def heldElem (v : Value) : Option (DataW Value × List MemPlace) := some (.held v, [])
def look (m : List (ByteArray × Value)) (s : ByteArray) : Option Value := (m.find? (fun p => decide (p.1 = s))).map (·.2)
/-- block b is a map that holds these pairs -/
def MapAt (P : Program) (k : TypeId) (w : World) (b : Nat) (m : List (ByteArray × Value)) : Prop :=
  ∃ D : DataW Value, w.ownsMap P k heldElem b m.length D ∧ ∀ s : ByteArray, s.size ≤ maxLen → ∀ z, D.atKey (.string s.data.toList) z = ((look m s).map DataW.held).getD z
theorem MapAt.made (P : Program) (k : TypeId) (w : World) : MapAt P k (w.alloc (.map #[] 0)) w.heap.size [] :=
  ⟨.map [], World.ownsMap_made w P k heldElem, fun _ _ _ => rfl⟩
theorem MapAt.lt {P : Program} {k : TypeId} {w : World} {b : Nat} {m : List (ByteArray × Value)} (h : MapAt P k w b m) : b < w.heap.size := h.choose_spec.1.lt
theorem MapAt.move {P : Program} {k : TypeId} {w w' : World} {b : Nat} {m : List (ByteArray × Value)} (h : MapAt P k w b m) (hb : w'.heap[b]? = w.heap[b]?) : MapAt P k w' b m := by
  obtain ⟨D, ⟨es, clock, h1, h2⟩, h3⟩ := h
  exact ⟨D, ⟨es, clock, hb.trans h1, h2⟩, h3⟩
theorem MapAt.below {P : Program} {k : TypeId} {w w' : World} {b : Nat} {m : List (ByteArray × Value)} (h : MapAt P k w b m) (hb : Below w.heap.size w w') : MapAt P k w' b m :=
  h.move (hb.block b h.lt)
theorem look_snoc {m : List (ByteArray × Value)} {s : ByteArray} {v : Value} (h : look m s = none) (t : ByteArray) : look (m ++ [(s, v)]) t = if t = s then some v else look m t := by
  unfold look at h ⊢
  rw [List.find?_append]
  by_cases ht : t = s
  · subst ht
    rw [if_pos rfl]
    have : m.find? (fun p => decide (p.1 = t)) = none := by simpa using h
    rw [this]
    simp
  · rw [if_neg ht]
    have : [(s, v)].find? (fun p => decide (p.1 = t)) = none := by simp; exact fun h => ht h.symm
    rw [this]
    simp
theorem lit_ne {s t : ByteArray} (h : ¬ t = s) : Lit.string t.data.toList ≠ Lit.string s.data.toList := by
  intro e
  apply h
  injection e with e
  cases t; cases s
  simp at e
  rw [e]

section
variable {P : Program} (w : World) {ops : Array Oper} {rest : List Oper} {o : Oper} {a : Act} {Q : Exit → Act → World → Prop}
theorem has_look {D : DataW Value} {l : Lit} {r : Option Value} (h : ∀ z, D.atKey l z = (r.map DataW.held).getD z) : Maps.has D l = r.isSome := by
  cases r with
  | none => exact has_false_of_atKey h
  | some v => exact has_true_of_atKey h
end
/-- the run of a lookup -/
theorem MapAt.run {P : Program} {w : World} {t k e : TypeId} (hk : P.underlying k = some .string) (ht : P.underlying t = some (.map k e)) {z : Value} (hz : (zeroValue e).run P w = .ok z w) {b : Nat} {l : List (ByteArray × Value)}
    (hown : MapAt P k w b l) {s : ByteArray} (hs : s.size ≤ maxLen) : (Instr.lookup t (.map (some b)) (.string s) false).run P w = .ok ((look l s).getD z) w := by
  obtain ⟨D, hD, hat⟩ := hown
  have hat := hat s hs
  obtain ⟨v, ps, hrun, hv⟩ := hD.lookup (string_keyed hk) ht hz (zd := .held z) (zp := []) rfl (WideMaps.keyOf_string_mk hk hs)
  have hv1 : DataW.held v = D.atKey (.string s.data.toList) (.held z) := by
    have := Option.some.inj hv
    exact congrArg Prod.fst this
  rw [hat] at hv1
  rw [hrun]
  cases hl : look l s with
  | none => rw [hl] at hv1; simp at hv1; rw [hv1]; rfl
  | some q => rw [hl] at hv1; simp at hv1; rw [hv1]; rfl
theorem MapAt.run_ok {P : Program} {w : World} {t k e : TypeId} (hk : P.underlying k = some .string) (ht : P.underlying t = some (.map k e)) {z : Value} (hz : (zeroValue e).run P w = .ok z w) {b : Nat} {l : List (ByteArray × Value)}
    (hown : MapAt P k w b l) {s : ByteArray} (hs : s.size ≤ maxLen) : (Instr.lookup t (.map (some b)) (.string s) true).run P w = .ok (.tuple #[(look l s).getD z, .bool (look l s).isSome]) w := by
  obtain ⟨D, hD, hat⟩ := hown
  have hat := hat s hs
  obtain ⟨v, ps, hrun, hv⟩ := hD.look_ok (string_keyed hk) ht hz (zd := .held z) (zp := []) rfl (WideMaps.keyOf_string_mk hk hs)
  have hv1 : DataW.held v = D.atKey (.string s.data.toList) (.held z) := by
    have := Option.some.inj hv
    exact congrArg Prod.fst this
  rw [hat] at hv1
  rw [hrun, has_look hat]
  cases hl : look l s with
  | none => rw [hl] at hv1; simp at hv1; rw [hv1]; rfl
  | some q => rw [hl] at hv1; simp at hv1; rw [hv1]; rfl
/-- a store of a new key -/
theorem MapAt.store {P : Program} {w : World} {t k e : TypeId} (hk : P.underlying k = some .string) (ht : P.underlying t = some (.map k e)) {b : Nat} {l : List (ByteArray × Value)}
    (hown : MapAt P k w b l) {s : ByteArray} (hs : s.size ≤ maxLen) (hn : l.length < maxLen) (h0 : look l s = none) (v : Value) :
    ∃ w', (Instr.mapUpdate t (.map (some b)) (.string s) v).run P w = .ok () w' ∧ MapAt P k w' b (l ++ [(s, v)]) ∧ w.grownBy w' (some b) := by
  obtain ⟨D, hD, hat⟩ := hown
  obtain ⟨w', h1, h2, h3⟩ := hD.update (val := v) (string_keyed hk) ht hn (WideMaps.keyOf_string_mk hk hs) rfl
  refine ⟨w', h1, ⟨_, by rw [List.length_append]; exact h2, fun u hu z => ?_⟩, h3⟩
  rw [look_snoc h0]
  by_cases he : u = s
  · subst he
    rw [if_pos rfl, Maps.atKey_put_same hD.isMap (show WideAt.IsKeyLit (.string u.data.toList) from trivial)]
    rfl
  · rw [if_neg he, Maps.atKey_put_other (lit_ne he)]
    exact hat u hu z
end Go.Proofs.YtgochgcchkdlmaaDoor

/-
  Maps from strings to values, made by the call itself: what they hold, as a function; stores of any key, deletes. No program is named here.
-/
namespace Go.Proofs.YtgochgcchkdlmaaDoor
set_option linter.unusedVariables false
set_option linter.unusedSimpArgs false
open Go.RowKit Go.Maps

/-- block b is a map that holds what f says (at most n entries) -/
def FMap (P : Program) (k : TypeId) (w : World) (b n : Nat) (f : ByteArray → Option Value) : Prop :=
  ∃ D : DataW Value, w.ownsMap P k heldElem b n D ∧ ∀ s : ByteArray, s.size ≤ maxLen → ∀ z, D.atKey (.string s.data.toList) z = ((f s).map DataW.held).getD z
/-- a function turned at one name -/
def upd {α : Type} (f : ByteArray → Option α) (s : ByteArray) (v : Option α) : ByteArray → Option α := fun t => if t = s then v else f t
theorem upd_same {α : Type} (f : ByteArray → Option α) (s : ByteArray) (v : Option α) : upd f s v s = v := if_pos rfl
theorem upd_other {α : Type} (f : ByteArray → Option α) {s t : ByteArray} (v : Option α) (h : t ≠ s) : upd f s v t = f t := if_neg h
theorem FMap.made (P : Program) (k : TypeId) (w : World) : FMap P k (w.alloc (.map #[] 0)) w.heap.size 0 (fun _ => none) :=
  ⟨.map [], World.ownsMap_made w P k heldElem, fun _ _ _ => rfl⟩
section
variable {P : Program} {k e t : TypeId} {w w' : World} {b n : Nat} {f : ByteArray → Option Value}
theorem FMap.lt (h : FMap P k w b n f) : b < w.heap.size := h.choose_spec.1.lt
theorem FMap.move (h : FMap P k w b n f) (hb : w'.heap[b]? = w.heap[b]?) : FMap P k w' b n f := by
  obtain ⟨D, ⟨es, clock, h1, h2⟩, h3⟩ := h
  exact ⟨D, ⟨es, clock, hb.trans h1, h2⟩, h3⟩
theorem FMap.below (h : FMap P k w b n f) (hb : Below w.heap.size w w') : FMap P k w' b n f := h.move (hb.block b h.lt)
theorem FMap.mono {n' : Nat} (h : FMap P k w b n f) (hn : n ≤ n') : FMap P k w b n' f := by
  obtain ⟨D, h1, h2⟩ := h
  exact ⟨D, h1.mono hn, h2⟩
theorem FMap.obj (h : FMap P k w b n f) : ∃ es clock, w.heap[b]? = some (.map es clock) := by
  obtain ⟨D, ⟨es, clock, h1, h2⟩, h3⟩ := h
  exact ⟨es, clock, h1⟩
theorem FMap.run (hk : P.underlying k = some .string) (ht : P.underlying t = some (.map k e)) {z : Value} (hz : (zeroValue e).run P w = .ok z w)
    (hown : FMap P k w b n f) {s : ByteArray} (hs : s.size ≤ maxLen) : (Instr.lookup t (.map (some b)) (.string s) false).run P w = .ok ((f s).getD z) w := by
  obtain ⟨D, hD, hat⟩ := hown
  have hat := hat s hs
  obtain ⟨v, ps, hrun, hv⟩ := hD.lookup (string_keyed hk) ht hz (zd := .held z) (zp := []) rfl (WideMaps.keyOf_string_mk hk hs)
  have hv1 : DataW.held v = D.atKey (.string s.data.toList) (.held z) := by
    have := Option.some.inj hv
    exact congrArg Prod.fst this
  rw [hat] at hv1
  rw [hrun]
  cases hl : f s with
  | none => rw [hl] at hv1; simp at hv1; rw [hv1]; rfl
  | some q => rw [hl] at hv1; simp at hv1; rw [hv1]; rfl
theorem FMap.run_ok (hk : P.underlying k = some .string) (ht : P.underlying t = some (.map k e)) {z : Value} (hz : (zeroValue e).run P w = .ok z w)
    (hown : FMap P k w b n f) {s : ByteArray} (hs : s.size ≤ maxLen) : (Instr.lookup t (.map (some b)) (.string s) true).run P w = .ok (.tuple #[(f s).getD z, .bool (f s).isSome]) w := by
  obtain ⟨D, hD, hat⟩ := hown
  have hat := hat s hs
  obtain ⟨v, ps, hrun, hv⟩ := hD.look_ok (string_keyed hk) ht hz (zd := .held z) (zp := []) rfl (WideMaps.keyOf_string_mk hk hs)
  have hv1 : DataW.held v = D.atKey (.string s.data.toList) (.held z) := by
    have := Option.some.inj hv
    exact congrArg Prod.fst this
  rw [hat] at hv1
  rw [hrun, has_look hat]
  cases hl : f s with
  | none => rw [hl] at hv1; simp at hv1; rw [hv1]; rfl
  | some q => rw [hl] at hv1; simp at hv1; rw [hv1]; rfl
/-- a store -/
theorem FMap.store (hk : P.underlying k = some .string) (ht : P.underlying t = some (.map k e))
    (hown : FMap P k w b n f) {s : ByteArray} (hs : s.size ≤ maxLen) (hn : n < maxLen) (v : Value) :
    ∃ w', (Instr.mapUpdate t (.map (some b)) (.string s) v).run P w = .ok () w' ∧ FMap P k w' b (n + 1) (upd f s (some v)) ∧ w.grownBy w' (some b) := by
  obtain ⟨D, hD, hat⟩ := hown
  obtain ⟨w', h1, h2, h3⟩ := hD.update (val := v) (string_keyed hk) ht hn (WideMaps.keyOf_string_mk hk hs) rfl
  refine ⟨w', h1, ⟨_, h2, fun u hu z => ?_⟩, h3⟩
  by_cases he : u = s
  · subst he
    rw [Maps.atKey_put_same hD.isMap (show WideAt.IsKeyLit (.string u.data.toList) from trivial), upd_same]
    rfl
  · rw [Maps.atKey_put_other (lit_ne he), upd_other _ _ he]
    exact hat u hu z
/-- a delete -/
theorem FMap.drop (hk : P.underlying k = some .string) (ht : P.underlying t = some (.map k e))
    (hown : FMap P k w b n f) {s : ByteArray} (hs : s.size ≤ maxLen) (ty : TypeId) :
    ∃ w', (Builtin.delete_ #[t, k] ty #[.map (some b), .string s]).run P w = .ok (.tuple #[]) w' ∧ FMap P k w' b n (upd f s none) ∧ w.grownBy w' (some b) := by
  obtain ⟨D, hD, hat⟩ := hown
  obtain ⟨w', h1, h2, h3⟩ := hD.drop (string_keyed hk) ht (WideMaps.keyOf_string_mk hk hs) ty
  refine ⟨w', h1, ⟨_, h2, fun u hu z => ?_⟩, h3.grown⟩
  by_cases he : u = s
  · subst he
    rw [Maps.atKey_del_same, upd_same]
    rfl
  · rw [Maps.atKey_del_other (lit_ne he), upd_other _ _ he]
    exact hat u hu z
end
section
variable {P : Program} (w : World) {ops : Array Oper} {rest : List Oper} {o : Oper} {a : Act} {Q : Exit → Act → World → Prop}
end
end Go.Proofs.YtgochgcchkdlmaaDoor
