/-
  A map from registers to true that the call itself makes: it holds the bits of a number. No program is named here.
-/
import Derived.Test.YteknhnnlhhgppaaDoorLivePlain
import Derived.Maps.OwnSet
import Derived.Maps.RangeWalk
import Derived.WalkKit
import Derived.Below
namespace Go.Proofs.YteknhnnlhhgppaaDoor
set_option linter.unusedVariables false
set_option linter.unusedSimpArgs false
open Go.RowKit Go.Maps
set_option maxRecDepth 100000

theorem wf_reg {r : Nat} (hr : r < 12) : (Lit.int .i64 (r : Int)).wf = true := WalkArith.wf_i64 (by omega)
/-- the keys of a set of registers -/
def inS (s : Nat) : Lit → Bool
  | .int .i64 z => decide (0 ≤ z) && s.testBit z.toNat
  | _ => false
/-- block b is a map that holds true at the registers of s -/
def SetMap (P : Program) (k e : TypeId) (w : World) (b n s : Nat) : Prop :=
  ∃ D : DataW Unit, w.ownsMap P k (plainElem P e) b n D ∧ ∀ kl zd, D.atKey kl zd = if inS s kl then .lit (.bool true) else zd
theorem SetMap.made (P : Program) (k e : TypeId) (w : World) : SetMap P k e (w.alloc (.map #[] 0)) w.heap.size 0 0 := by
  refine ⟨.map [], World.ownsMap_made w P k _, fun kl zd => ?_⟩
  have : inS 0 kl = false := by
    unfold inS
    split <;> simp
  rw [this]
  rfl
section
variable {P : Program} {k e t : TypeId} {w w' : World} {b n s : Nat}
theorem SetMap.lt (h : SetMap P k e w b n s) : b < w.heap.size := h.choose_spec.1.lt
theorem SetMap.move (h : SetMap P k e w b n s) (hb : w'.heap[b]? = w.heap[b]?) : SetMap P k e w' b n s := by
  obtain ⟨D, ⟨es, clock, h1, h2⟩, h3⟩ := h
  exact ⟨D, ⟨es, clock, hb.trans h1, h2⟩, h3⟩
theorem SetMap.below (h : SetMap P k e w b n s) (hb : Below w.heap.size w w') : SetMap P k e w' b n s := h.move (hb.block b h.lt)
theorem SetMap.mono {n' : Nat} (h : SetMap P k e w b n s) (hn : n ≤ n') : SetMap P k e w b n' s := by
  obtain ⟨D, h1, h2⟩ := h
  exact ⟨D, h1.mono hn, h2⟩
theorem sameKey_int (z x : Int) : (Lit.int .i64 z).sameKey (.int .i64 x) = decide (z = x) := by
  by_cases h : z = x
  · subst h; simp [Lit.sameKey]
  · rw [Maps.sameKey_ne (fun e => h (by injection e))]
    simp [h]
theorem toNat_same {z : Int} {r : Nat} (hz : 0 ≤ z) : decide (z.toNat = r) = decide (z = (r : Int)) := by
  apply decide_eq_decide.2
  omega
theorem inS_add {r : Nat} (kl : Lit) : inS (addB s r) kl = (inS s kl || kl.sameKey (.int .i64 (r : Int))) := by
  unfold inS
  split
  · rename_i z
    rw [addB_bit, sameKey_int]
    by_cases hz : 0 ≤ z
    · rw [toNat_same hz]
      simp [hz]
    · have : ¬ z = (r : Int) := by omega
      simp [hz, this]
  · rename_i h
    rw [Maps.sameKey_ne (fun e => h _ e)]
    rfl
theorem inS_rem {r : Nat} (hs : s < 2 ^ 12) (hr : r < 12) (kl : Lit) : inS (remB s r) kl = (inS s kl && !kl.sameKey (.int .i64 (r : Int))) := by
  unfold inS
  split
  · rename_i z
    rw [remB_bit s hs hr, sameKey_int]
    by_cases hz : 0 ≤ z
    · rw [toNat_same hz]
      simp [hz]
    · simp [hz]
  · simp
theorem SetMap.add {r : Nat} (h : SetMap P k e w b n s) (hk : P.underlying k = some (.int .i64)) (ht : P.underlying t = some (.map k e)) (he : P.underlying e = some .bool) (hr : r < 12) (hn : n < maxLen) :
    ∃ w', (Instr.mapUpdate t (.map (some b)) (.int .i64 (r : Int)) (.bool true)).run P w = .ok () w' ∧ SetMap P k e w' b (n + 1) (addB s r) ∧ w.grownBy w' (some b) := by
  obtain ⟨D, h1, h2⟩ := h
  obtain ⟨w', e1, e2, e3⟩ := h1.update (val := .bool true) (int_keyed hk) ht hn (keyOf_int_mk hk (wf_reg hr)) (plainElem_bool he true)
  refine ⟨w', e1, ⟨_, e2, fun kl zd => ?_⟩, e3⟩
  rw [inS_add]
  by_cases hl : kl = .int .i64 (r : Int)
  · subst hl
    rw [Maps.atKey_put_same h1.isMap (show WideAt.IsKeyLit (.int .i64 (r : Int)) from trivial), sameKey_int]
    simp
  · rw [Maps.atKey_put_other hl, h2]
    rw [Maps.sameKey_ne hl]
    simp
theorem SetMap.rem {r : Nat} (h : SetMap P k e w b n s) (hk : P.underlying k = some (.int .i64)) (ht : P.underlying t = some (.map k e)) (hs : s < 2 ^ 12) (hr : r < 12) (ty : TypeId) :
    ∃ w', (Builtin.delete_ #[t, k] ty #[.map (some b), .int .i64 (r : Int)]).run P w = .ok (.tuple #[]) w' ∧ SetMap P k e w' b n (remB s r) ∧ w.grownBy w' (some b) := by
  obtain ⟨D, h1, h2⟩ := h
  obtain ⟨w', e1, e2, e3⟩ := h1.drop (int_keyed hk) ht (keyOf_int_mk hk (wf_reg hr)) ty
  refine ⟨w', e1, ⟨_, e2, fun kl zd => ?_⟩, e3.grown⟩
  rw [inS_rem hs hr]
  by_cases hl : kl = .int .i64 (r : Int)
  · subst hl
    rw [Maps.atKey_del_same, sameKey_int]
    simp
  · rw [Maps.atKey_del_other hl, h2]
    rw [Maps.sameKey_ne hl]
    simp
theorem SetMap.run (h : SetMap P k e w b n s) (hk : P.underlying k = some (.int .i64)) (ht : P.underlying t = some (.map k e)) (he : P.underlying e = some .bool) (hz : (zeroValue e).run P w = .ok (.bool false) w) {r : Nat} (hr : r < 12) :
    (Instr.lookup t (.map (some b)) (.int .i64 (r : Int)) false).run P w = .ok (.bool (s.testBit r)) w := by
  obtain ⟨D, h1, h2⟩ := h
  obtain ⟨v, ps, hrun, hv⟩ := h1.lookup (int_keyed hk) ht hz (plainElem_bool he false) (keyOf_int_mk hk (wf_reg hr))
  rw [hrun]
  rw [h2] at hv
  have e1 : inS s (.int .i64 (r : Int)) = s.testBit r := by simp [inS]
  rw [e1] at hv
  have hb : ∃ x, v = .bool x := by
    unfold plainElem at hv
    rw [he] at hv
    cases v <;> simp at hv
    exact ⟨_, rfl⟩
  obtain ⟨x, rfl⟩ := hb
  rw [plainElem_bool he] at hv
  cases hbit : s.testBit r <;> rw [hbit] at hv <;> simp at hv <;> simp [hv]
theorem plainElem_bool_inv (he : P.underlying e = some .bool) {v : Value} {z : DataW Unit × List MemPlace} (h : plainElem P e v = some z) : ∃ x, v = .bool x ∧ z = (.lit (.bool x), []) := by
  unfold plainElem at h
  rw [he] at h
  cases v <;> simp at h
  exact ⟨_, rfl, h.symm⟩
end
/-- how many of the set's registers are still to come -/
def leftN (left : Lit → Bool) (s : Nat) : Nat := (listB s).countP fun z => left (.int .i64 z)
theorem listB_nodup (s : Nat) : (listB s).Nodup := by
  unfold listB
  rw [List.Nodup, List.pairwise_map]
  refine (List.nodup_range.filter _).imp fun h e => h (Int.ofNat.inj e)
theorem leftN_all {left : Lit → Bool} {s : Nat} (h : ∀ z ∈ listB s, left (.int .i64 z) = true) : leftN left s = (listB s).length := by
  unfold leftN
  exact List.countP_eq_length.2 h
theorem leftN_none {left : Lit → Bool} {s : Nat} (h : ∀ kl, left kl = false) : leftN left s = 0 := by
  unfold leftN
  exact List.countP_eq_zero.2 fun z _ => by simp [h]
theorem countP_strike {l : List Int} (hn : l.Nodup) {p : Int → Bool} {x : Int} (hx : x ∈ l) (hp : p x = true) : l.countP (fun z => p z && !decide (z = x)) + 1 = l.countP p := by
  induction l with
  | nil => cases hx
  | cons y l ih =>
    obtain ⟨h1, h2⟩ := List.nodup_cons.1 hn
    rw [List.countP_cons, List.countP_cons]
    by_cases hy : y = x
    · subst hy
      have e1 : l.countP (fun z => p z && !decide (z = y)) = l.countP p := by
        apply List.countP_congr
        intro z hz
        have : z ≠ y := fun e => h1 (e ▸ hz)
        simp [this]
      rw [e1]
      simp [hp]
    · have hx2 : x ∈ l := by
        rcases List.mem_cons.1 hx with h | h
        · exact absurd h.symm hy
        · exact h
      have := ih h2 hx2
      simp only [hy, decide_false, Bool.not_false, Bool.and_true]
      omega
theorem leftN_strike {left : Lit → Bool} {s : Nat} {x : Int} (hx : x ∈ listB s) (hl : left (.int .i64 x) = true) : leftN (fun z => left z && !z.sameKey (.int .i64 x)) s + 1 = leftN left s := by
  unfold leftN
  have := countP_strike (listB_nodup s) (p := fun z => left (.int .i64 z)) hx hl
  rw [← this]
  congr 1
  apply List.countP_congr
  intro z _
  simp only [sameKey_int]
theorem mem_inS {s : Nat} (hs : s < 4096) {x : Int} : inS s (.int .i64 x) = true ↔ x ∈ listB s := by
  unfold inS
  constructor
  · intro h
    rw [Bool.and_eq_true] at h
    have h0 : 0 ≤ x := by simpa using h.1
    have h1 := (mem_list hs).2 h.2
    rwa [Int.toNat_of_nonneg h0] at h1
  · intro h
    have h0 := (list_in (R := 12) hs h).1
    obtain ⟨j, rfl⟩ := Int.eq_ofNat_of_zero_le h0
    have h1 := (mem_list hs).1 h
    rw [Bool.and_eq_true]
    exact ⟨by simp, by simpa using h1⟩
theorem list_rises (s : Nat) : (listB s).Pairwise (· < ·) := by
  unfold listB
  rw [List.pairwise_map]
  exact (List.pairwise_lt_range.filter _).imp fun h => Int.ofNat_lt.2 h
section
variable {P : Program} (w : World) {ops : Array Oper} {rest : List Oper} {o : Oper} {a : Act} {Q : Exit → Act → World → Prop}
theorem wpList_store_set (hg : o.guard = none) (m x v : Operand) (t : TypeId) (hop : o.op = Op.mapUpdate t m x v)
    (k e : TypeId) (hk : P.underlying k = some (.int .i64)) (he : P.underlying e = some .bool) (ht : P.underlying t = some (.map k e)) (b n s : Nat)
    (hm : a.eval m = .map (some b)) (h : SetMap P k e w b n s) (r : Nat) (hx : a.eval x = .int .i64 (r : Int)) (hv : a.eval v = .bool true) (hr : r < 12) (hn : n < maxLen)
    (hK : ∀ w', SetMap P k e w' b (n + 1) (addB s r) → w.grownBy w' (some b) → wpList P ops Q rest (a.put o.dst undef) w') :
    wpList P ops Q (o :: rest) a w := by
  refine wpList_plain hg fun K' hK' => ?_
  obtain ⟨w', hrun, r1, r2⟩ := h.add hk ht he hr hn
  unfold Oper.wp
  simp [execOp, hop, hm, hx, hv, hrun, Result.andThen]
  exact hK' _ _ (hK w' r1 r2)
theorem wpList_delete_set (hg : o.guard = none) (m x : Operand) (t k : TypeId) (hop : o.op = Op.call { callee := Callee.builtin Builtin.delete, args := #[m, x], argTypes := #[t, k] })
    (e : TypeId) (hk : P.underlying k = some (.int .i64)) (ht : P.underlying t = some (.map k e)) (b n s : Nat)
    (hm : a.eval m = .map (some b)) (h : SetMap P k e w b n s) (r : Nat) (hx : a.eval x = .int .i64 (r : Int)) (hs : s < 2 ^ 12) (hr : r < 12)
    (hK : ∀ w', SetMap P k e w' b n (remB s r) → w.grownBy w' (some b) → wpList P ops Q rest (a.put o.dst (.tuple #[])) w') :
    wpList P ops Q (o :: rest) a w := by
  refine wpList_plain hg fun K' hK' => ?_
  obtain ⟨w', hrun, r1, r2⟩ := h.rem hk ht hs hr o.type
  unfold Oper.wp
  simp [execOp, hop, resolve, invoke, builtin, hm, hx, hrun, Result.andThen]
  exact hK' _ _ (hK w' r1 r2)
end
/-- the step of a range over the set -/
theorem wpList_next_set {P : Program} (w : World) {ops : Array Oper} {rest : List Oper} {o : Oper} {a : Act} {Q : Exit → Act → World → Prop}
    (hg : o.guard = none) (it : Operand) (hop : o.op = Op.next it false) (k e : TypeId) (hk : P.underlying k = some (.int .i64)) (he : P.underlying e = some .bool)
    (b r n s : Nat) (D : DataW Unit) (left : Lit → Bool) (cnt : Nat) (hit : a.eval it = .pointer (some ⟨r, 0, none⟩)) (h : w.ranges P k (plainElem P e) b r n D left cnt)
    (hD : ∀ kl zd, D.atKey kl zd = if inS s kl then .lit (.bool true) else zd) (hs : s < 4096)
    (hDone : leftN left s = 0 → wpList P ops Q rest (a.put o.dst (.tuple #[.bool false])) w)
    (hMore : ∀ (x : Int) (w' : World) (left' : Lit → Bool) (cnt' : Nat), w'.ranges P k (plainElem P e) b r n D left' cnt' → leftN left' s + 1 = leftN left s → cnt' < cnt →
      w.grownBy w' (some r) → w'.heap.size = w.heap.size → (Instr.entry (.pointer (some ⟨r, 0, none⟩))).run P w' = .ok (.tuple #[.int .i64 x, .bool true]) w' → wpList P ops Q rest (a.put o.dst (.tuple #[.bool true, .int .i64 x, .bool true])) w') :
    wpList P ops Q (o :: rest) a w :=
  wpList_next_ranges w hg it hop k (int_keyed hk) (plainElem P e) (Value.int .i64) Value.bool (fun key kl hkey => by obtain ⟨x, rfl, _⟩ := Maps.keyOf_int_inv hk hkey; exact ⟨x, rfl⟩) (fun v y hv => by obtain ⟨c, rfl, _⟩ := plainElem_bool_inv he hv; exact ⟨c, rfl⟩)
    b r n D left cnt hit h (fun _ hl => hDone (leftN_none hl)) (fun x c kl y w' cnt' hkey hlk hv hat hrg hlt hgr hsz hen => by
      obtain ⟨x', ex, rfl, hwx⟩ := Maps.keyOf_int_inv hk hkey
      cases ex
      obtain ⟨c', ec, rfl⟩ := plainElem_bool_inv he hv
      cases ec
      have hin : inS s (.int .i64 x) = true := by
        cases hi : inS s (.int .i64 x) with
        | true => rfl
        | false =>
          have h1 := hat (.lit (.bool true))
          have h2 := hat (.lit (.bool false))
          rw [hD, hi] at h1 h2
          simp at h1 h2
          exact absurd (h1.symm.trans h2) (by decide)
      have hc : c = true := by
        have h1 := hat (.lit (.bool true))
        rw [hD, hin] at h1
        simp at h1
        first | exact h1 | exact h1.symm
      subst hc
      exact hMore x w' _ cnt' hrg (leftN_strike ((mem_inS hs).1 hin) hlk) hlt hgr hsz hen)
end Go.Proofs.YteknhnnlhhgppaaDoor
