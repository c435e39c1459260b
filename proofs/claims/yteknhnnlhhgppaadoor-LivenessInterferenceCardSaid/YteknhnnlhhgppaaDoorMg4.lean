/-
  Mg4: several texts in one (DeadP, Append, IrMap).
-/
import Derived.Test.YteknhnnlhhgppaaDoorMg3
import Derived.Shelf.SlSortCmp.InsertionK
import Derived.Lib.Small
import Derived.WalkKit
import Derived.Maps.OwnSet
import Derived.Maps.OwnOps
import Derived.Below
/-
  Dead instructions, plainly: in the order in which they are found, and in order (layer 19). No program is named here.
-/
namespace Go.Proofs.YteknhnnlhhgppaaDoor
set_option linter.unusedVariables false
set_option linter.unusedSimpArgs false
open Go.RowKit
set_option maxRecDepth 100000

/-- an instruction that does nothing but set its register: Const, Copy, Count, Bin (division apart) -/
def removable (q : Ins) : Bool := (q.op == 1) || (q.op == 2) || (q.op == 15) || ((q.op == 3) && !(q.imm == 9) && !(q.imm == 10))
theorem removable_def {q : Ins} (h : removable q = true) : q.defines = some q.dst := by
  unfold removable at h
  simp only [Bool.or_eq_true, Bool.and_eq_true, beq_iff_eq] at h
  unfold Ins.defines
  rw [if_pos (by omega)]
/-- dead at a point, o being live at the block's end -/
def deadAt (b : Blk) (o i : Nat) : Bool :=
  match b.code[i]? with
  | some q => removable q && !((blkB b (i + 1) o).testBit q.dst.toNat)
  | none => false
theorem deadAt_some {b : Blk} {o i : Nat} {q : Ins} (h : b.code[i]? = some q) : deadAt b o i = (removable q && !((blkB b (i + 1) o).testBit q.dst.toNat)) := by unfold deadAt; rw [h]
def pairKI (k i : Nat) : Int × Int := ((k : Int), (i : Int))
/-- those of block k before the m-th instruction -/
def upTo (b : Blk) (o k m : Nat) : List (Int × Int) := ((List.range m).filter (deadAt b o)).map (pairKI k)
theorem upTo_zero {b : Blk} {o k : Nat} : upTo b o k 0 = [] := rfl
theorem upTo_yes {b : Blk} {o k m : Nat} (h : deadAt b o m = true) : upTo b o k (m + 1) = upTo b o k m ++ [pairKI k m] := by unfold upTo; rw [List.range_succ, List.filter_append, List.map_append]; simp [h]
theorem upTo_no {b : Blk} {o k m : Nat} (h : deadAt b o m = false) : upTo b o k (m + 1) = upTo b o k m := by unfold upTo; rw [List.range_succ, List.filter_append, List.map_append]; simp [h]
/-- those of block k from the m-th instruction on, the last one first -/
def downFrom (b : Blk) (o k m : Nat) : List (Int × Int) := (((List.range' m (b.code.length - m)).filter (deadAt b o)).map (pairKI k)).reverse
theorem downFrom_end {b : Blk} {o k : Nat} : downFrom b o k b.code.length = [] := by unfold downFrom; simp
theorem downFrom_step {b : Blk} {o k m : Nat} (hm : m < b.code.length) : downFrom b o k m = downFrom b o k (m + 1) ++ (if deadAt b o m = true then [pairKI k m] else []) := by
  unfold downFrom
  have e : b.code.length - m = (b.code.length - (m + 1)) + 1 := by omega
  rw [e, List.range'_succ, List.filter_cons]
  split
  · simp
  · simp
theorem downFrom_all {b : Blk} {o k : Nat} : downFrom b o k 0 = (upTo b o k b.code.length).reverse := by
  unfold downFrom upTo
  rw [Nat.sub_zero, List.range_eq_range']
def blkAt (f : Fn) (k : Nat) : Blk := f.blocks.getD k ⟨[], 0, 0, 0, 0⟩
theorem blkAt_some {f : Fn} {k : Nat} {b : Blk} (h : f.blocks[k]? = some b) : blkAt f k = b := by unfold blkAt; rw [List.getD_eq_getElem?_getD, h]; rfl
/-- all of the first j blocks, in order -/
def deadUp (f : Fn) (outs : List Nat) (j : Nat) : List (Int × Int) := (List.range j).flatMap fun k => upTo (blkAt f k) (outs.getD k 0) k (blkAt f k).code.length
/-- .. as they are found -/
def deadDown (f : Fn) (outs : List Nat) (j : Nat) : List (Int × Int) := (List.range j).flatMap fun k => downFrom (blkAt f k) (outs.getD k 0) k 0
theorem deadUp_succ {f : Fn} {outs : List Nat} {j : Nat} {b : Blk} (h : f.blocks[j]? = some b) : deadUp f outs (j + 1) = deadUp f outs j ++ upTo b (outs.getD j 0) j b.code.length := by
  unfold deadUp; rw [List.range_succ, List.flatMap_append, List.flatMap_singleton, blkAt_some h]
theorem deadDown_succ {f : Fn} {outs : List Nat} {j : Nat} {b : Blk} (h : f.blocks[j]? = some b) : deadDown f outs (j + 1) = deadDown f outs j ++ downFrom b (outs.getD j 0) j 0 := by
  unfold deadDown; rw [List.range_succ, List.flatMap_append, List.flatMap_singleton, blkAt_some h]
theorem dead_perm (f : Fn) (outs : List Nat) : ∀ j, (deadDown f outs j).Perm (deadUp f outs j)
  | 0 => List.Perm.refl _
  | j + 1 => by
    unfold deadDown deadUp
    rw [List.range_succ, List.flatMap_append, List.flatMap_append, List.flatMap_singleton, List.flatMap_singleton]
    refine List.Perm.append (dead_perm f outs j) ?_
    rw [downFrom_all]
    exact List.reverse_perm _
theorem upTo_len (b : Blk) (o k m : Nat) : (upTo b o k m).length ≤ m := by
  unfold upTo
  rw [List.length_map]
  exact Nat.le_trans (List.length_filter_le _ _) (by simp)
theorem deadUp_len {f : Fn} {outs : List Nat} {C : Nat} (h : ∀ b ∈ f.blocks, b.code.length ≤ C) : ∀ j, (deadUp f outs j).length ≤ j * C
  | 0 => by simp [deadUp]
  | j + 1 => by
    have h1 := deadUp_len (outs := outs) h j
    have h2 := upTo_len (blkAt f j) (outs.getD j 0) j (blkAt f j).code.length
    have h3 : (blkAt f j).code.length ≤ C := by
      unfold blkAt
      rw [List.getD_eq_getElem?_getD]
      cases hb : f.blocks[j]? with
      | none => exact Nat.zero_le _
      | some b => exact h b (List.mem_of_getElem? hb)
    unfold deadUp at h1 ⊢
    rw [List.range_succ, List.flatMap_append, List.flatMap_singleton, List.length_append, Nat.succ_mul]
    omega
/-- how slices.Compare puts two pairs -/
def cfP (x y : Int × Int) : Int := if x.1 = y.1 then Lib.compareInt x.2 y.2 else Lib.compareInt x.1 y.1
def ltP (x y : Int × Int) : Prop := x.1 < y.1 ∨ (x.1 = y.1 ∧ x.2 < y.2)
theorem cf_lt (x y : Int × Int) : ltOf cfP x y = true ↔ ltP x y := by
  unfold ltOf cfP Lib.compareInt ltP
  rw [decide_eq_true_eq]
  by_cases h : x.1 = y.1
  · rw [if_pos h]
    by_cases h1 : x.2 < y.2
    · simp [h, h1]
    · by_cases h2 : y.2 < x.2 <;> simp [h, h1, h2]
  · rw [if_neg h]
    by_cases h1 : x.1 < y.1
    · simp [h1]
    · by_cases h2 : y.1 < x.1
      · simp [h, h1, h2]
      · omega
theorem cf_no (x y : Int × Int) : ltOf cfP x y = false ↔ ¬ ltP x y := by
  rw [← cf_lt]; simp
theorem cf_swo : Go.Sort.SWO (ltOf cfP) where
  irrefl x := by rw [cf_no]; unfold ltP; omega
  trans x y z h1 h2 := by rw [cf_lt] at *; unfold ltP at *; omega
  ntrans x y z h1 h2 := by rw [cf_no] at *; unfold ltP at *; omega
theorem cf_one (x y : Int × Int) (h1 : ltOf cfP x y = false) (h2 : ltOf cfP y x = false) : x = y := by
  rw [cf_no] at *
  unfold ltP at *
  exact Prod.ext (by omega) (by omega)
theorem upTo_sorted (b : Blk) (o k : Nat) : ∀ m, (upTo b o k m).Pairwise ltP ∧ ∀ x ∈ upTo b o k m, x.1 = (k : Int) ∧ x.2 < (m : Int)
  | 0 => ⟨List.Pairwise.nil, fun x hx => by cases hx⟩
  | m + 1 => by
    obtain ⟨h1, h2⟩ := upTo_sorted b o k m
    cases hd : deadAt b o m with
    | false => rw [upTo_no hd]; exact ⟨h1, fun x hx => ⟨(h2 x hx).1, by have := (h2 x hx).2; omega⟩⟩
    | true =>
      rw [upTo_yes hd]
      refine ⟨List.pairwise_append.2 ⟨h1, List.pairwise_singleton _ _, fun x hx y hy => ?_⟩, fun x hx => ?_⟩
      · obtain rfl := List.mem_singleton.1 hy
        have := h2 x hx
        exact .inr ⟨this.1, this.2⟩
      · rcases List.mem_append.1 hx with hx | hx
        · exact ⟨(h2 x hx).1, by have := (h2 x hx).2; omega⟩
        · obtain rfl := List.mem_singleton.1 hx
          exact ⟨rfl, by show (m : Int) < _; omega⟩
theorem deadUp_sorted (f : Fn) (outs : List Nat) : ∀ j, (deadUp f outs j).Pairwise ltP ∧ ∀ x ∈ deadUp f outs j, x.1 < (j : Int)
  | 0 => ⟨List.Pairwise.nil, fun x hx => by cases hx⟩
  | j + 1 => by
    obtain ⟨h1, h2⟩ := deadUp_sorted f outs j
    obtain ⟨h3, h4⟩ := upTo_sorted (blkAt f j) (outs.getD j 0) j (blkAt f j).code.length
    unfold deadUp at h1 h2 ⊢
    rw [List.range_succ, List.flatMap_append, List.flatMap_singleton]
    refine ⟨List.pairwise_append.2 ⟨h1, h3, fun x hx y hy => ?_⟩, fun x hx => ?_⟩
    · have := h2 x hx
      have := (h4 y hy).1
      exact .inl (by omega)
    · rcases List.mem_append.1 hx with hx | hx
      · have := h2 x hx; omega
      · have := (h4 x hx).1; omega
/-- the sort of what was found is what the reference lists -/
theorem dead_sorted {f : Fn} {outs : List Nat} {j : Nat} : (deadDown f outs j).mergeSort (fun x y => !(ltOf cfP) y x) = deadUp f outs j := by
  refine List.Perm.eq_of_pairwise (le := fun x y => (!(ltOf cfP) y x) = true) ?_ ?_ ?_ ((List.mergeSort_perm _ _).trans (dead_perm f outs j))
  · intro x y _ _ h1 h2
    exact cf_one x y (by simpa using h2) (by simpa using h1)
  · refine List.pairwise_mergeSort ?_ ?_ _
    · intro x y z h1 h2
      have h1 : ltOf cfP y x = false := by simpa using h1
      have h2 : ltOf cfP z y = false := by simpa using h2
      have := cf_swo.ntrans z y x h2 h1
      simp [this]
    · intro x y
      cases h : ltOf cfP y x with
      | false => simp
      | true =>
        have h' : ltOf cfP x y = false := by rw [cf_no]; rw [cf_lt] at h; unfold ltP at *; omega
        simp [h']
  · refine (deadUp_sorted f outs j).1.imp fun {x y} h => ?_
    have : ltOf cfP y x = false := by rw [cf_no]; unfold ltP at *; omega
    simp [this]
end Go.Proofs.YteknhnnlhhgppaaDoor

/-
  A law for append on a row of the call's own that also says where the new row lies. No program is named here.
-/
namespace Go.Proofs.YteknhnnlhhgppaaDoor
set_option linter.unusedVariables false
set_option linter.unusedSimpArgs false
open Go.RowKit

theorem grown_any {w w' : World} {row : Option Nat} (h : w.grownBy w' none) : w.grownBy w' row :=
  ⟨h.os, h.tape, h.output, h.size, fun k hk _ => h.block k hk (by simp)⟩
theorem ownsRow_base {w : World} {base base' : Nat} {e : TypeId} {size : Nat} {v : Value} {n : Nat} {xs : List Value} (h : w.ownsRow base e size v n xs) (hb : base' ≤ base) : w.ownsRow base' e size v n xs := by
  obtain ⟨h1, h2⟩ := h
  refine ⟨h1, ?_⟩
  rcases h2 with h2 | ⟨g, cap, cur, hv, hg, r⟩
  · exact .inl h2
  · exact .inr ⟨g, cap, cur, hv, Nat.le_trans hb hg, r⟩
theorem ownsRow_below {w w' : World} {base : Nat} {e : TypeId} {size : Nat} {v : Value} {n : Nat} {xs : List Value} (h : w.ownsRow base e size v n xs) (hb : Below w.heap.size w w') : w'.ownsRow base e size v n xs := by
  obtain ⟨h1, h2⟩ := h
  refine ⟨h1, ?_⟩
  rcases h2 with h2 | ⟨g, cap, cur, hv, hg, hc, r⟩
  · exact .inl h2
  · exact .inr ⟨g, cap, cur, hv, hg, (hb.block g (Array.getElem?_eq_some_iff.1 hc).1).trans hc, r⟩
/-- where a row lies: nowhere, or in its block -/
theorem ownsRow_form {w : World} {base : Nat} {e : TypeId} {size : Nat} {v : Value} {n : Nat} {xs : List Value} (h : w.ownsRow base e size v n xs) :
    (v = .slice none 0 0 ∧ n = 0) ∨ ∃ g cap, v = .slice (some ⟨g, 0, none⟩) n cap ∧ base ≤ g ∧ g < w.heap.size ∧ n ≤ cap := by
  rcases h.2 with h2 | ⟨g, cap, cur, hv, hg, hc, hn, r⟩
  · exact .inl h2
  · exact .inr ⟨g, cap, hv, hg, (Array.getElem?_eq_some_iff.1 hc).1, hn⟩

/-- append to a nil slice or a row of the call's own: the new row lies where the old one lay, or in a new block -/
theorem wpList_append_row {P : Program} (w : World) {ops : Array Oper} {rest : List Oper} {o : Oper} {a : Act} {Q : Exit → Act → World → Prop}
    (hg : o.guard = none) (s x : Operand) (t : TypeId) (hop : o.op = Op.call { callee := Callee.builtin Builtin.append, args := #[s, x], argTypes := #[t, t] })
    (base : Nat) (e : TypeId) (i : TypeInfo) (z : Value) (size bytes : Nat) (h1 : P.underlying t = some (.slice e)) (h2 : P.info? e = some i) (h3 : i.zero = some z) (h4 : i.size = size) (h5 : i.bytes = bytes) (h6 : z.cells.size = size) (h7 : 0 < size)
    (v : Value) (n : Nat) (xs : List Value) (hs : a.eval s = v) (hown : w.ownsRow base e size v n xs)
    (ad : Addr) (m c : Nat) (news : List Value) (hx : a.eval x = .slice (some ad) m c) (hn : news.length = m * size) (hc : ∀ j u, news[j]? = some u → w.cell? (ad.add j) = some u) (h1c : ∀ u ∈ news, u.oneCell' = true)
    (hm : 0 < m) (b1 : n + m ≤ maxLen) (b2 : (n + m) * bytes ≤ 140737488355328) (hbase : base ≤ w.heap.size)
    (hK : ∀ g cap w', w'.ownsRow base e size (.slice (some ⟨g, 0, none⟩) (n + m) cap) (n + m) (xs ++ news) → w.grownBy w' v.ownBlock → (v.ownBlock = some g ∨ w.heap.size ≤ g) → wpList P ops Q rest (a.put o.dst (.slice (some ⟨g, 0, none⟩) (n + m) cap)) w') :
    wpList P ops Q (o :: rest) a w := by
  have out : ∀ v' w', w'.ownsRow w.heap.size e size v' (n + m) (xs ++ news) → w.grownBy w' none → wpList P ops Q rest (a.put o.dst v') w' := by
    intro v' w' r1 r2
    rcases ownsRow_form r1 with ⟨_, h0⟩ | ⟨g', cap', rfl, hg', _, _⟩
    · omega
    · exact hK g' cap' w' (ownsRow_base r1 hbase) (grown_any r2) (.inr hg')
  rcases ownsRow_form hown with ⟨rfl, rfl⟩ | ⟨g, cap, rfl, hgb, hgl, hcap⟩
  · have hx0 : xs = [] := List.length_eq_zero_iff.1 (by rw [hown.1]; omega)
    exact wpList_append_grows w hg s x t hop e i z size bytes h1 h2 h3 h4 h5 h6 h7 none 0 0 xs hs (fun _ => ⟨rfl, rfl⟩) (by rw [hx0]; simp) (fun b h => by cases h) ad m c news hx hn hc h1c (by omega) b1 b2 out
  · by_cases hf : n + m ≤ cap
    · exact wpList_append_fits w hg s x t hop base e i size h1 h2 h4 g n cap xs hs hown ad m c news hx hn hc h1c hf (fun w' r1 r2 => hK g cap w' r1 r2 (.inl rfl))
    · refine wpList_append_grows w hg s x t hop e i z size bytes h1 h2 h3 h4 h5 h6 h7 (some ⟨g, 0, none⟩) n cap xs hs (fun h => by cases h) hown.1 (fun b hb j u hu => ?_) ad m c news hx hn hc h1c (by omega) b1 b2 out
      cases hb
      exact hown.cells rfl j u hu
end Go.Proofs.YteknhnnlhhgppaaDoor

/-
  Maps from strings to values, made by the call itself: what they hold, as a list of pairs. No program is named here.
-/
namespace Go.Proofs.YteknhnnlhhgppaaDoor
set_option linter.unusedVariables false
set_option linter.unusedSimpArgs false
open Go.RowKit Go.Maps

/-- an element reads as itself -/
def heldElem (v : Value) : Option (DataW Value × List MemPlace) := some (.held v, [])
def look (m : List (ByteArray × Value)) (s : ByteArray) : Option Value := (m.find? (fun p => decide (p.1 = s))).map (·.2)
/-- block b is a map that holds these pairs -/
def MapAt (P : Program) (k : TypeId) (w : World) (b : Nat) (m : List (ByteArray × Value)) : Prop :=
  ∃ D : DataW Value, w.ownsMap P k heldElem b m.length D ∧ ∀ s : ByteArray, s.size ≤ maxLen → ∀ z, D.atKey (.string s.data.toList) z = ((look m s).map DataW.held).getD z
theorem MapAt.made (P : Program) (k : TypeId) (w : World) : MapAt P k (w.alloc (.map #[] 0)) w.heap.size [] :=
  ⟨.map [], World.ownsMap_made w P k heldElem, fun _ _ _ => rfl⟩
theorem MapAt.lt {P : Program} {k : TypeId} {w : World} {b : Nat} {m : List (ByteArray × Value)} (h : MapAt P k w b m) : b < w.heap.size := h.choose_spec.1.lt
theorem MapAt.move {P : Program} {k : TypeId} {w w' : World} {b : Nat} {m : List (ByteArray × Value)} (h : MapAt P k w b m) (hb : w'.heap[b]? = w.heap[b]?) : MapAt P k w' b m := by
  obtain ⟨D, ⟨es, clock, h1, h2⟩, h3⟩ := h
  exact ⟨D, ⟨es, clock, hb.trans h1, h2⟩, h3⟩
theorem MapAt.below {P : Program} {k : TypeId} {w w' : World} {b : Nat} {m : List (ByteArray × Value)} (h : MapAt P k w b m) (hb : Below w.heap.size w w') : MapAt P k w' b m :=
  h.move (hb.block b h.lt)
theorem look_snoc {m : List (ByteArray × Value)} {s : ByteArray} {v : Value} (h : look m s = none) (t : ByteArray) : look (m ++ [(s, v)]) t = if t = s then some v else look m t := by
  unfold look at h ⊢
  rw [List.find?_append]
  by_cases ht : t = s
  · subst ht
    rw [if_pos rfl]
    have : m.find? (fun p => decide (p.1 = t)) = none := by simpa using h
    rw [this]
    simp
  · rw [if_neg ht]
    have : [(s, v)].find? (fun p => decide (p.1 = t)) = none := by simp; exact fun h => ht h.symm
    rw [this]
    simp
theorem lit_ne {s t : ByteArray} (h : ¬ t = s) : Lit.string t.data.toList ≠ Lit.string s.data.toList := by
  intro e
  apply h
  injection e with e
  cases t; cases s
  simp at e
  rw [e]

section
variable {P : Program} (w : World) {ops : Array Oper} {rest : List Oper} {o : Oper} {a : Act} {Q : Exit → Act → World → Prop}
theorem has_look {D : DataW Value} {l : Lit} {r : Option Value} (h : ∀ z, D.atKey l z = (r.map DataW.held).getD z) : Maps.has D l = r.isSome := by
  cases r with
  | none => exact has_false_of_atKey h
  | some v => exact has_true_of_atKey h
/-- a lookup with ok -/
theorem wpList_look_ok (hg : o.guard = none) (m x : Operand) (t : TypeId) (hop : o.op = Op.lookup t m x true)
    (k e : TypeId) (hk : P.underlying k = some .string) (ht : P.underlying t = some (.map k e)) {z : Value} (hz : (zeroValue e).run P w = .ok z w) (b : Nat) (l : List (ByteArray × Value))
    (hm : a.eval m = .map (some b)) (hown : MapAt P k w b l) (s : ByteArray) (hx : a.eval x = .string s) (hs : s.size ≤ maxLen) (u : Value) (ok : Bool) (hu : (look l s).getD z = u) (hok : (look l s).isSome = ok)
    (hK : wpList P ops Q rest (a.put o.dst (.tuple #[u, .bool ok])) w) :
    wpList P ops Q (o :: rest) a w := by
  obtain ⟨D, hD, hat⟩ := hown
  have hat := hat s hs
  refine wpList_lookup_own_ok w hg m x t hop k e (string_keyed hk) ht heldElem hz (.held z) [] rfl b _ D hm hD _ _ hx (WideMaps.keyOf_string_mk hk hs) fun v ps hv => ?_
  have hv1 : DataW.held v = D.atKey (.string s.data.toList) (.held z) := by
    have := Option.some.inj hv
    exact congrArg Prod.fst this
  rw [hat] at hv1
  have hv2 : v = u := by
    rw [← hu]
    cases hl : look l s with
    | none => rw [hl] at hv1; simpa using hv1
    | some q => rw [hl] at hv1; simpa using hv1
  rw [hv2, has_look hat, hok]
  exact hK
/-- a lookup -/
theorem wpList_look (hg : o.guard = none) (m x : Operand) (t : TypeId) (hop : o.op = Op.lookup t m x false)
    (k e : TypeId) (hk : P.underlying k = some .string) (ht : P.underlying t = some (.map k e)) {z : Value} (hz : (zeroValue e).run P w = .ok z w) (b : Nat) (l : List (ByteArray × Value))
    (hm : a.eval m = .map (some b)) (hown : MapAt P k w b l) (s : ByteArray) (hx : a.eval x = .string s) (hs : s.size ≤ maxLen) (u : Value) (hu : (look l s).getD z = u)
    (hK : wpList P ops Q rest (a.put o.dst u) w) :
    wpList P ops Q (o :: rest) a w := by
  obtain ⟨D, hD, hat⟩ := hown
  have hat := hat s hs
  refine wpList_plain hg fun K' hK' => ?_
  obtain ⟨v, ps, hrun, hv⟩ := hD.lookup (string_keyed hk) ht hz (zd := .held z) (zp := []) rfl (WideMaps.keyOf_string_mk hk hs)
  have hv1 : DataW.held v = D.atKey (.string s.data.toList) (.held z) := by
    have := Option.some.inj hv
    exact congrArg Prod.fst this
  rw [hat] at hv1
  have hv2 : v = u := by
    rw [← hu]
    cases hl : look l s with
    | none => rw [hl] at hv1; simpa using hv1
    | some q => rw [hl] at hv1; simpa using hv1
  unfold Oper.wp
  simp [execOp, hop, hm, hx, hrun, Result.andThen]
  exact hK' _ _ (by rw [hv2]; exact hK)
end
/-- the run of a lookup -/
theorem MapAt.run {P : Program} {w : World} {t k e : TypeId} (hk : P.underlying k = some .string) (ht : P.underlying t = some (.map k e)) {z : Value} (hz : (zeroValue e).run P w = .ok z w) {b : Nat} {l : List (ByteArray × Value)}
    (hown : MapAt P k w b l) {s : ByteArray} (hs : s.size ≤ maxLen) : (Instr.lookup t (.map (some b)) (.string s) false).run P w = .ok ((look l s).getD z) w := by
  obtain ⟨D, hD, hat⟩ := hown
  have hat := hat s hs
  obtain ⟨v, ps, hrun, hv⟩ := hD.lookup (string_keyed hk) ht hz (zd := .held z) (zp := []) rfl (WideMaps.keyOf_string_mk hk hs)
  have hv1 : DataW.held v = D.atKey (.string s.data.toList) (.held z) := by
    have := Option.some.inj hv
    exact congrArg Prod.fst this
  rw [hat] at hv1
  rw [hrun]
  cases hl : look l s with
  | none => rw [hl] at hv1; simp at hv1; rw [hv1]; rfl
  | some q => rw [hl] at hv1; simp at hv1; rw [hv1]; rfl
theorem MapAt.run_ok {P : Program} {w : World} {t k e : TypeId} (hk : P.underlying k = some .string) (ht : P.underlying t = some (.map k e)) {z : Value} (hz : (zeroValue e).run P w = .ok z w) {b : Nat} {l : List (ByteArray × Value)}
    (hown : MapAt P k w b l) {s : ByteArray} (hs : s.size ≤ maxLen) : (Instr.lookup t (.map (some b)) (.string s) true).run P w = .ok (.tuple #[(look l s).getD z, .bool (look l s).isSome]) w := by
  obtain ⟨D, hD, hat⟩ := hown
  have hat := hat s hs
  obtain ⟨v, ps, hrun, hv⟩ := hD.look_ok (string_keyed hk) ht hz (zd := .held z) (zp := []) rfl (WideMaps.keyOf_string_mk hk hs)
  have hv1 : DataW.held v = D.atKey (.string s.data.toList) (.held z) := by
    have := Option.some.inj hv
    exact congrArg Prod.fst this
  rw [hat] at hv1
  rw [hrun, has_look hat]
  cases hl : look l s with
  | none => rw [hl] at hv1; simp at hv1; rw [hv1]; rfl
  | some q => rw [hl] at hv1; simp at hv1; rw [hv1]; rfl
/-- a store of a new key -/
theorem MapAt.store {P : Program} {w : World} {t k e : TypeId} (hk : P.underlying k = some .string) (ht : P.underlying t = some (.map k e)) {b : Nat} {l : List (ByteArray × Value)}
    (hown : MapAt P k w b l) {s : ByteArray} (hs : s.size ≤ maxLen) (hn : l.length < maxLen) (h0 : look l s = none) (v : Value) :
    ∃ w', (Instr.mapUpdate t (.map (some b)) (.string s) v).run P w = .ok () w' ∧ MapAt P k w' b (l ++ [(s, v)]) ∧ w.grownBy w' (some b) := by
  obtain ⟨D, hD, hat⟩ := hown
  obtain ⟨w', h1, h2, h3⟩ := hD.update (val := v) (string_keyed hk) ht hn (WideMaps.keyOf_string_mk hk hs) rfl
  refine ⟨w', h1, ⟨_, by rw [List.length_append]; exact h2, fun u hu z => ?_⟩, h3⟩
  rw [look_snoc h0]
  by_cases he : u = s
  · subst he
    rw [if_pos rfl, Maps.atKey_put_same hD.isMap (show WideAt.IsKeyLit (.string u.data.toList) from trivial)]
    rfl
  · rw [if_neg he, Maps.atKey_put_other (lit_ne he)]
    exact hat u hu z
theorem wpList_mapStore {P : Program} (w : World) {ops : Array Oper} {rest : List Oper} {o : Oper} {a : Act} {Q : Exit → Act → World → Prop}
    (hg : o.guard = none) (m x v : Operand) (t : TypeId) (hop : o.op = Op.mapUpdate t m x v)
    (k e : TypeId) (hk : P.underlying k = some .string) (ht : P.underlying t = some (.map k e)) (b : Nat) (l : List (ByteArray × Value))
    (hm : a.eval m = .map (some b)) (hown : MapAt P k w b l) (s : ByteArray) (val : Value) (hx : a.eval x = .string s) (hv : a.eval v = val) (hs : s.size ≤ maxLen) (hn : l.length < maxLen) (h0 : look l s = none)
    (hK : ∀ w', MapAt P k w' b (l ++ [(s, val)]) → w.grownBy w' (some b) → wpList P ops Q rest (a.put o.dst undef) w') :
    wpList P ops Q (o :: rest) a w := by
  refine wpList_plain hg fun K' hK' => ?_
  obtain ⟨w', hrun, r1, r2⟩ := hown.store hk ht hs hn h0 val
  unfold Oper.wp
  simp [execOp, hop, hm, hx, hv, hrun, Result.andThen]
  exact hK' _ _ (hK w' r1 r2)
end Go.Proofs.YteknhnnlhhgppaaDoor
