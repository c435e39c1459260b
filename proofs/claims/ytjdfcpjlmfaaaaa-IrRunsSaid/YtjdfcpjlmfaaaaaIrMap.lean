/-
  Maps from strings to values, made by the call itself: what they hold, as a list of pairs. No program is named here.
-/
import Derived.Maps.OwnSet
import Derived.Maps.OwnOps
import Derived.WalkKit
import Derived.Below
namespace Go.Proofs.Ytjdfcpjlmfaaaaa
set_option linter.unusedVariables false
set_option linter.unusedSimpArgs false
open Go.RowKit Go.Maps

/-- an element reads as itself -/
def heldElem (v : Value) : Option (DataW Value × List MemPlace) := some (.held v, [])
def look (m : List (ByteArray × Value)) (s : ByteArray) : Option Value := (m.find? (fun p => decide (p.1 = s))).map (·.2)
/-- block b is a map that holds these pairs -/
def MapAt (P : Program) (k : TypeId) (w : World) (b : Nat) (m : List (ByteArray × Value)) : Prop :=
  ∃ D : DataW Value, w.ownsMap P k heldElem b m.length D ∧ ∀ s : ByteArray, s.size ≤ maxLen → ∀ z, D.atKey (.string s.data.toList) z = ((look m s).map DataW.held).getD z
theorem MapAt.made (P : Program) (k : TypeId) (w : World) : MapAt P k (w.alloc (.map #[] 0)) w.heap.size [] :=
  ⟨.map [], World.ownsMap_made w P k heldElem, fun _ _ _ => rfl⟩
theorem MapAt.lt {P : Program} {k : TypeId} {w : World} {b : Nat} {m : List (ByteArray × Value)} (h : MapAt P k w b m) : b < w.heap.size := h.choose_spec.1.lt
theorem MapAt.move {P : Program} {k : TypeId} {w w' : World} {b : Nat} {m : List (ByteArray × Value)} (h : MapAt P k w b m) (hb : w'.heap[b]? = w.heap[b]?) : MapAt P k w' b m := by
  obtain ⟨D, ⟨es, clock, h1, h2⟩, h3⟩ := h
  exact ⟨D, ⟨es, clock, hb.trans h1, h2⟩, h3⟩
theorem MapAt.below {P : Program} {k : TypeId} {w w' : World} {b : Nat} {m : List (ByteArray × Value)} (h : MapAt P k w b m) (hb : Below w.heap.size w w') : MapAt P k w' b m :=
  h.move (hb.block b h.lt)
theorem look_snoc {m : List (ByteArray × Value)} {s : ByteArray} {v : Value} (h : look m s = none) (t : ByteArray) : look (m ++ [(s, v)]) t = if t = s then some v else look m t := by
  unfold look at h ⊢
  rw [List.find?_append]
  by_cases ht : t = s
  · subst ht
    rw [if_pos rfl]
    have : m.find? (fun p => decide (p.1 = t)) = none := by simpa using h
    rw [this]
    simp
  · rw [if_neg ht]
    have : [(s, v)].find? (fun p => decide (p.1 = t)) = none := by simp; exact fun h => ht h.symm
    rw [this]
    simp
theorem lit_ne {s t : ByteArray} (h : ¬ t = s) : Lit.string t.data.toList ≠ Lit.string s.data.toList := by
  intro e
  apply h
  injection e with e
  cases t; cases s
  simp at e
  rw [e]

section
variable {P : Program} (w : World) {ops : Array Oper} {rest : List Oper} {o : Oper} {a : Act} {Q : Exit → Act → World → Prop}
theorem has_look {D : DataW Value} {l : Lit} {r : Option Value} (h : ∀ z, D.atKey l z = (r.map DataW.held).getD z) : Maps.has D l = r.isSome := by
  cases r with
  | none => exact has_false_of_atKey h
  | some v => exact has_true_of_atKey h
/-- a lookup with ok -/
theorem wpList_look_ok (hg : o.guard = none) (m x : Operand) (t : TypeId) (hop : o.op = Op.lookup t m x true)
    (k e : TypeId) (hk : P.underlying k = some .string) (ht : P.underlying t = some (.map k e)) {z : Value} (hz : (zeroValue e).run P w = .ok z w) (b : Nat) (l : List (ByteArray × Value))
    (hm : a.eval m = .map (some b)) (hown : MapAt P k w b l) (s : ByteArray) (hx : a.eval x = .string s) (hs : s.size ≤ maxLen) (u : Value) (ok : Bool) (hu : (look l s).getD z = u) (hok : (look l s).isSome = ok)
    (hK : wpList P ops Q rest (a.put o.dst (.tuple #[u, .bool ok])) w) :
    wpList P ops Q (o :: rest) a w := by
  obtain ⟨D, hD, hat⟩ := hown
  have hat := hat s hs
  refine wpList_lookup_own_ok w hg m x t hop k e (string_keyed hk) ht heldElem hz (.held z) [] rfl b _ D hm hD _ _ hx (WideMaps.keyOf_string_mk hk hs) fun v ps hv => ?_
  have hv1 : DataW.held v = D.atKey (.string s.data.toList) (.held z) := by
    have := Option.some.inj hv
    exact congrArg Prod.fst this
  rw [hat] at hv1
  have hv2 : v = u := by
    rw [← hu]
    cases hl : look l s with
    | none => rw [hl] at hv1; simpa using hv1
    | some q => rw [hl] at hv1; simpa using hv1
  rw [hv2, has_look hat, hok]
  exact hK
/-- a lookup -/
theorem wpList_look (hg : o.guard = none) (m x : Operand) (t : TypeId) (hop : o.op = Op.lookup t m x false)
    (k e : TypeId) (hk : P.underlying k = some .string) (ht : P.underlying t = some (.map k e)) {z : Value} (hz : (zeroValue e).run P w = .ok z w) (b : Nat) (l : List (ByteArray × Value))
    (hm : a.eval m = .map (some b)) (hown : MapAt P k w b l) (s : ByteArray) (hx : a.eval x = .string s) (hs : s.size ≤ maxLen) (u : Value) (hu : (look l s).getD z = u)
    (hK : wpList P ops Q rest (a.put o.dst u) w) :
    wpList P ops Q (o :: rest) a w := by
  obtain ⟨D, hD, hat⟩ := hown
  have hat := hat s hs
  refine wpList_plain hg fun K' hK' => ?_
  obtain ⟨v, ps, hrun, hv⟩ := hD.lookup (string_keyed hk) ht hz (zd := .held z) (zp := []) rfl (WideMaps.keyOf_string_mk hk hs)
  have hv1 : DataW.held v = D.atKey (.string s.data.toList) (.held z) := by
    have := Option.some.inj hv
    exact congrArg Prod.fst this
  rw [hat] at hv1
  have hv2 : v = u := by
    rw [← hu]
    cases hl : look l s with
    | none => rw [hl] at hv1; simpa using hv1
    | some q => rw [hl] at hv1; simpa using hv1
  unfold Oper.wp
  simp [execOp, hop, hm, hx, hrun, Result.andThen]
  exact hK' _ _ (by rw [hv2]; exact hK)
end
/-- the run of a lookup -/
theorem MapAt.run {P : Program} {w : World} {t k e : TypeId} (hk : P.underlying k = some .string) (ht : P.underlying t = some (.map k e)) {z : Value} (hz : (zeroValue e).run P w = .ok z w) {b : Nat} {l : List (ByteArray × Value)}
    (hown : MapAt P k w b l) {s : ByteArray} (hs : s.size ≤ maxLen) : (Instr.lookup t (.map (some b)) (.string s) false).run P w = .ok ((look l s).getD z) w := by
  obtain ⟨D, hD, hat⟩ := hown
  have hat := hat s hs
  obtain ⟨v, ps, hrun, hv⟩ := hD.lookup (string_keyed hk) ht hz (zd := .held z) (zp := []) rfl (WideMaps.keyOf_string_mk hk hs)
  have hv1 : DataW.held v = D.atKey (.string s.data.toList) (.held z) := by
    have := Option.some.inj hv
    exact congrArg Prod.fst this
  rw [hat] at hv1
  rw [hrun]
  cases hl : look l s with
  | none => rw [hl] at hv1; simp at hv1; rw [hv1]; rfl
  | some q => rw [hl] at hv1; simp at hv1; rw [hv1]; rfl
theorem MapAt.run_ok {P : Program} {w : World} {t k e : TypeId} (hk : P.underlying k = some .string) (ht : P.underlying t = some (.map k e)) {z : Value} (hz : (zeroValue e).run P w = .ok z w) {b : Nat} {l : List (ByteArray × Value)}
    (hown : MapAt P k w b l) {s : ByteArray} (hs : s.size ≤ maxLen) : (Instr.lookup t (.map (some b)) (.string s) true).run P w = .ok (.tuple #[(look l s).getD z, .bool (look l s).isSome]) w := by
  obtain ⟨D, hD, hat⟩ := hown
  have hat := hat s hs
  obtain ⟨v, ps, hrun, hv⟩ := hD.look_ok (string_keyed hk) ht hz (zd := .held z) (zp := []) rfl (WideMaps.keyOf_string_mk hk hs)
  have hv1 : DataW.held v = D.atKey (.string s.data.toList) (.held z) := by
    have := Option.some.inj hv
    exact congrArg Prod.fst this
  rw [hat] at hv1
  rw [hrun, has_look hat]
  cases hl : look l s with
  | none => rw [hl] at hv1; simp at hv1; rw [hv1]; rfl
  | some q => rw [hl] at hv1; simp at hv1; rw [hv1]; rfl
/-- a store of a new key -/
theorem MapAt.store {P : Program} {w : World} {t k e : TypeId} (hk : P.underlying k = some .string) (ht : P.underlying t = some (.map k e)) {b : Nat} {l : List (ByteArray × Value)}
    (hown : MapAt P k w b l) {s : ByteArray} (hs : s.size ≤ maxLen) (hn : l.length < maxLen) (h0 : look l s = none) (v : Value) :
    ∃ w', (Instr.mapUpdate t (.map (some b)) (.string s) v).run P w = .ok () w' ∧ MapAt P k w' b (l ++ [(s, v)]) ∧ w.grownBy w' (some b) := by
  obtain ⟨D, hD, hat⟩ := hown
  obtain ⟨w', h1, h2, h3⟩ := hD.update (val := v) (string_keyed hk) ht hn (WideMaps.keyOf_string_mk hk hs) rfl
  refine ⟨w', h1, ⟨_, by rw [List.length_append]; exact h2, fun u hu z => ?_⟩, h3⟩
  rw [look_snoc h0]
  by_cases he : u = s
  · subst he
    rw [if_pos rfl, Maps.atKey_put_same hD.isMap (show WideAt.IsKeyLit (.string u.data.toList) from trivial)]
    rfl
  · rw [if_neg he, Maps.atKey_put_other (lit_ne he)]
    exact hat u hu z
theorem wpList_mapStore {P : Program} (w : World) {ops : Array Oper} {rest : List Oper} {o : Oper} {a : Act} {Q : Exit → Act → World → Prop}
    (hg : o.guard = none) (m x v : Operand) (t : TypeId) (hop : o.op = Op.mapUpdate t m x v)
    (k e : TypeId) (hk : P.underlying k = some .string) (ht : P.underlying t = some (.map k e)) (b : Nat) (l : List (ByteArray × Value))
    (hm : a.eval m = .map (some b)) (hown : MapAt P k w b l) (s : ByteArray) (val : Value) (hx : a.eval x = .string s) (hv : a.eval v = val) (hs : s.size ≤ maxLen) (hn : l.length < maxLen) (h0 : look l s = none)
    (hK : ∀ w', MapAt P k w' b (l ++ [(s, val)]) → w.grownBy w' (some b) → wpList P ops Q rest (a.put o.dst undef) w') :
    wpList P ops Q (o :: rest) a w := by
  refine wpList_plain hg fun K' hK' => ?_
  obtain ⟨w', hrun, r1, r2⟩ := hown.store hk ht hs hn h0 val
  unfold Oper.wp
  simp [execOp, hop, hm, hx, hv, hrun, Result.andThen]
  exact hK' _ _ (hK w' r1 r2)
end Go.Proofs.Ytjdfcpjlmfaaaaa
