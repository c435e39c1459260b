/-
  Contracts of CheckRenames' closures (package ontimelaw15), and slices.Contains over strings.
-/
import Derived.Test.YtnegdmhmhdojbaaDoorChkRenP
import Derived.Test.YtnegdmhmhdojbaaDoorChkHas
import Derived.Test.YtnegdmhmhdojbaaDoorApps
import Derived.Test.YtnegdmhmhdojbaaDoorChkPlains
namespace Go.Proofs.YtnegdmhmhdojbaaDoor
set_option linter.unusedVariables false
set_option linter.unusedSimpArgs false
open Go.RowKit
set_option maxRecDepth 100000
set_option maxHeartbeats 8000000

theorem fresh_list : freshS.toList = [122, 122, 122, 102, 114, 101, 115, 104] := by decide +kernel
abbrev zeroNd : Obj := .cells #[.int .u8 0, .int .i64 0, .string ⟨#[]⟩, .slice none 0 0] 43
theorem str_neq {a b : ByteArray} (h : a ≠ b) : (a.toList == b.toList) = false := by
  rw [beq_eq_false_iff_ne]
  exact fun h' => h (ByteArray.ext (Array.toList_inj.1 (by rw [ByteArray.toList_eq, ByteArray.toList_eq] at h'; exact h')))
theorem str_eqq {a b : ByteArray} (h : a = b) : (a.toList == b.toList) = true := by simp [h]
/-- a node has the new name -/
theorem freshF_any (x : Tree) (w : World) (a : Option Addr) (c : Nat) (hx : Rep w x a) :
    Calls Tryd.prog 46 (#[x.val a c] ++ #[]) w fun e w' => e = .returned (.bool (decide (x.name = freshS))) ∧ Below w.heap.size w w' := by
  rw [show (#[x.val a c] ++ #[] : Array Value) = #[x.val a c] from rfl]
  have hfit := hx.fits
  clear hx
  go_enter Tryd.func46, Tryd.ntmps46
  by_cases h2 : x.name = freshS
  · have hb2 : (x.name.toList == [122, 122, 122, 102, 114, 101, 115, 104]) = true := by rw [← fresh_list]; exact str_eqq h2
    have HE : Hid (decide (x.name = freshS) = true) := decide_eq_true h2
    clear h2
    go_wp2_with fail
    go_ret
    exact ⟨by rw [HE.out]; rfl, mem_alloc _ _⟩
  · have hb2 : (x.name.toList == [122, 122, 122, 102, 114, 101, 115, 104]) = false := by rw [← fresh_list]; exact str_neq h2
    have HE : Hid (decide (x.name = freshS) = false) := decide_eq_false h2
    clear h2
    go_wp2_with fail
    go_ret
    exact ⟨by rw [HE.out]; rfl, mem_alloc _ _⟩
/-- a node that is no variable has that name -/
def usedF (s : ByteArray) (x : Tree) : Bool := decide (x.name = s) && !decide (x.kind = 2)
theorem usedF_any (s : ByteArray) (nb : Nat) (x : Tree) (w : World) (a : Option Addr) (c : Nat) (hx : Rep w x a) (hn : w.heap[nb]? = some (.cells #[.string s] 9)) :
    Calls Tryd.prog 44 (#[x.val a c] ++ #[.pointer (some ⟨nb, 0, none⟩)]) w fun e w' => e = .returned (.bool (usedF s x)) ∧ Below w.heap.size w w' := by
  rw [show (#[x.val a c] ++ #[.pointer (some ⟨nb, 0, none⟩)] : Array Value) = #[x.val a c, .pointer (some ⟨nb, 0, none⟩)] from rfl]
  have hfit := hx.fits
  have c0 := mem_cell hn 0
  simp only [List.getElem?_toArray, List.getElem?_cons_zero] at c0
  have hlt := mem_lt hn
  clear hn hx
  go_enter Tryd.func44, Tryd.ntmps44
  by_cases h2 : x.name = s
  · have hb2 : (x.name.toList == s.toList) = true := str_eqq h2
    by_cases h1 : x.kind = 2
    · have hb1 : (x.kind != 2) = false := by simp [h1]
      have HE : Hid (usedF s x = false) := by show _ = _; unfold usedF; simp [h1]
      clear h1 h2
      go_wp2_with fail
      go_ret
      exact ⟨by rw [HE.out]; rfl, mem_alloc _ _⟩
    · have hb1 : (x.kind != 2) = true := by simpa using h1
      have HE : Hid (usedF s x = true) := by show _ = _; unfold usedF; simp [h1, h2]
      clear h1 h2
      go_wp2_with fail
      go_ret
      exact ⟨by rw [HE.out]; rfl, mem_alloc _ _⟩
  · have hb2 : (x.name.toList == s.toList) = false := str_neq h2
    have HE : Hid (usedF s x = false) := by show _ = _; unfold usedF; simp [h2]
    clear h2
    go_wp2_with fail
    go_ret
    exact ⟨by rw [HE.out]; rfl, mem_alloc _ _⟩
/-- the name of a declaration is that name -/
theorem arrName_any (name : ByteArray) (nb : Nat) (x : Arr) (w : World) (hn : w.heap[nb]? = some (.cells #[.string name] 9)) :
    Calls Tryd.prog 43 #[.agg #[.string x.name, .int .i64 x.len], .pointer (some ⟨nb, 0, none⟩)] w fun e w' => e = .returned (.bool (decide (x.name = name))) ∧ Below w.heap.size w w' := by
  have c0 := mem_cell hn 0
  simp only [List.getElem?_toArray, List.getElem?_cons_zero] at c0
  have hlt := mem_lt hn
  clear hn
  go_enter Tryd.func43, Tryd.ntmps43
  by_cases h2 : x.name = name
  · have hb2 : (x.name.toList == name.toList) = true := str_eqq h2
    have HE : Hid (decide (x.name = name) = true) := decide_eq_true h2
    clear h2
    go_wp2_with fail
    go_ret
    exact ⟨by rw [HE.out]; rfl, mem_alloc _ _⟩
  · have hb2 : (x.name.toList == name.toList) = false := str_neq h2
    have HE : Hid (decide (x.name = name) = false) := decide_eq_false h2
    clear h2
    go_wp2_with fail
    go_ret
    exact ⟨by rw [HE.out]; rfl, mem_alloc _ _⟩
/-- the index of a string -/
theorem strIdx_any (l : List ByteArray) (s : ByteArray) (w : World) (a : Option Addr) (c : Nat) (hl : StrsAt w a l) :
    Calls Tryd.prog 59 #[.slice a l.length c, .string s] w fun e w' => ∃ k : Int, e = .returned (.int .i64 k) ∧ decide (0 ≤ k) = memB l s ∧ Below w.heap.size w w' := by
  have HL := Lib.hid hl.2
  have hlen := hl.1
  clear hl
  obtain ⟨r, hr⟩ : ∃ r, memB l s = r := ⟨_, rfl⟩
  have HR := Lib.hid hr
  rw [hr]
  clear hr
  go_enter Tryd.func59, Tryd.ntmps59
  go_wp2_with fail
  go_loopw [5, 8] (fun _ i wr => ∃ j : Nat, j ≤ l.length ∧ i = .int .i64 j ∧ memB (l.take j) s = false ∧ Below w.heap.size w wr) (fun _ i _ => l.length - (intOf i).toNat)
  case atStart => exact ⟨0, Nat.zero_le _, rfl, rfl, Below.refl _ _⟩
  case round =>
    obtain ⟨j, hj, rfl, hall, hB⟩ := hrel
    have HA := Lib.hid hall
    have HB := Lib.hid hB
    have hj0 : (0 : Int) ≤ (j : Int) := by omega
    clear hall
    by_cases hlt : j < l.length
    · have hlt2 : (j : Int) < (l.length : Int) := by omega
      obtain ⟨b, off, rfl, q1, _⟩ := HL.out j hlt
      obtain ⟨x, hx⟩ : ∃ x, l.getD j ⟨#[]⟩ = x := ⟨_, rfl⟩
      rw [hx] at q1
      have f1 := cell_below hB q1
      have HT : Hid (l.take (j + 1) = l.take j ++ [x]) := by show _ = _; rw [take_more (d := ⟨#[]⟩) hlt, hx]
      have HM : Hid (x ∈ l) := by show x ∈ l; rw [← hx]; simp [hlt]
      clear hx q1 hB
      by_cases h2 : s = x
      · have hb2 : (s.toList == x.toList) = true := str_eqq h2
        have HE : Hid (r = true) := by show _ = _; rw [← HR.out, h2]; exact memB_iff.2 HM.out
        clear h2
        go_wp2_with fail
        go_ret
        exact ⟨_, rfl, by rw [HE.out]; simp, HB.out⟩
      · have hb2 : (s.toList == x.toList) = false := str_neq h2
        have HN : Hid (memB (l.take (j + 1)) s = false) := by
          show _ = _
          rw [HT.out, memB_snoc, HA.out, decide_eq_false (fun e => h2 e.symm)]; rfl
        clear h2
        go_wp2_with fail
        go_roundw
        case rel => exact ⟨j + 1, by omega, by go_num, HN.out, HB.out⟩
        case measure => simp [intOf]; omega
    · obtain rfl : j = l.length := by omega
      have HE : Hid (r = false) := by show _ = _; rw [← HR.out, ← HA.out, List.take_length]
      go_wp2_with fail
      go_ret
      exact ⟨_, rfl, by rw [HE.out]; rfl, HB.out⟩
theorem strHas_any (l : List ByteArray) (s : ByteArray) (w : World) (a : Option Addr) (c : Nat) (hl : StrsAt w a l) :
    Calls Tryd.prog 45 #[.slice a l.length c, .string s] w fun e w' => e = .returned (.bool (memB l s)) ∧ Below w.heap.size w w' := by
  have h8 := strIdx_any l s w a c hl
  have H8 := Lib.hid h8
  have hlen := hl.1
  clear hl h8
  obtain ⟨r, hr⟩ : ∃ r, memB l s = r := ⟨_, rfl⟩
  rw [hr] at H8 ⊢
  clear hr
  go_enter Tryd.func45, Tryd.ntmps45
  go_wp2_with fail
  have h9 := H8.out
  refine h9.mono ?_
  clear h9
  rintro e w1 ⟨k, rfl, hk, hB⟩
  have HB := Lib.hid hB
  have HK := Lib.hid hk
  clear hB
  cases r with
  | true =>
    have h0 : (0 : Int) ≤ k := of_decide_eq_true hk
    clear hk
    go_wp2_with fail
    go_ret
    exact ⟨rfl, HB.out⟩
  | false =>
    have h0 : ¬ (0 : Int) ≤ k := of_decide_eq_false hk
    have h1 : decide (0 ≤ k) = false := hk
    clear hk
    go_wp2_with fail
    go_ret
    exact ⟨rfl, HB.out⟩
/-- a node that is the variable gets the new name -/
theorem renOne_any (name : ByteArray) (nb : Nat) (x : Tree) (S : Nat → Prop) (w : World) (a : Option Addr) (c : Nat) (hr : RepIn S w x a) (hn : w.heap[nb]? = some (.cells #[.string name] 9)) :
    Calls Tryd.prog 47 (#[x.val a c] ++ #[.pointer (some ⟨nb, 0, none⟩)]) w fun e w' => ∃ a' c', e = .returned ((renN name x).val a' c') ∧ RepIn (fun k => S k ∨ w.heap.size ≤ k) w' (renN name x) a' ∧ Below w.heap.size w w' := by
  rw [show (#[x.val a c] ++ #[.pointer (some ⟨nb, 0, none⟩)] : Array Value) = #[x.val a c, .pointer (some ⟨nb, 0, none⟩)] from rfl]
  obtain ⟨A1, hA1⟩ : ∃ A1 : World, w.alloc (boxObj x a c) = A1 := ⟨_, rfl⟩
  have hB1 : Below w.heap.size w A1 := by rw [← hA1]; exact mem_alloc _ _
  have hX1 : A1.heap[w.heap.size]? = some (boxObj x a c) := by rw [← hA1]; exact mem_new _ _
  have hs1 : A1.heap.size = w.heap.size + 1 := by rw [← hA1]; simp
  obtain ⟨A2, hA2⟩ : ∃ A2 : World, A1.alloc zeroNd = A2 := ⟨_, rfl⟩
  have hB2 : Below A1.heap.size A1 A2 := by rw [← hA2]; exact mem_alloc _ _
  have hX2 : A2.heap[A1.heap.size]? = some zeroNd := by rw [← hA2]; exact mem_new _ _
  have HX1 := Lib.hid (mem_keep hX1 hB2)
  have HX2 := Lib.hid hX2
  have HB := Lib.hid (mem_then hB1 hB2)
  have HS1 := Lib.hid hs1
  have HR := Lib.hid hr
  have hfit := hr.fits
  have c0 := mem_cell (mem_keep hn HB.out) 0
  obtain ⟨⟨f0, f1, f2, f3⟩, p0, p1, p2, p3⟩ := blk4 HX1.out
  obtain ⟨⟨z0, z1, z2, z3⟩, q0, q1, q2, q3⟩ := blk4 HX2.out
  simp only [List.getElem?_toArray, List.getElem?_cons_zero] at c0
  have hne : A1.heap.size ≠ w.heap.size := by omega
  clear hr hn hs1 hB1 hX1 hB2 hX2
  go_enter Tryd.func47, Tryd.ntmps47
  by_cases h1 : x.kind = 2
  · have hb1 : (x.kind == 2) = true := by simp [h1]
    by_cases h2 : x.name = name
    · have hb2 : (x.name.toList == name.toList) = true := str_eqq h2
      have HE : Hid (renN name x = Tree.make x.kind x.num freshS x.len x.kid) := if_pos ⟨h1, h2⟩
      clear h1 h2
      go_wp2_with fail
      show bodyPost _ _ _ _ _ (set4 (A2.setCell ⟨w.heap.size, 2, none⟩ (.string ⟨#[122, 122, 122, 102, 114, 101, 115, 104]⟩)) A1.heap.size (.int .u8 x.kind) (.int .i64 x.num) (.string ⟨#[122, 122, 122, 102, 114, 101, 115, 104]⟩) (.slice a x.len c))
      have hz : (A2.setCell ⟨w.heap.size, 2, none⟩ (.string ⟨#[122, 122, 122, 102, 114, 101, 115, 104]⟩)).heap[A1.heap.size]? = some zeroNd := (Below.heap_setCell _ _ _ _ hne).trans HX2.out
      have hF := set4_at (y0 := .int .u8 x.kind) (y1 := .int .i64 x.num) (y2 := .string ⟨#[122, 122, 122, 102, 114, 101, 115, 104]⟩) (y3 := .slice a x.len c) hz
      have hBF : Below w.heap.size w (set4 (A2.setCell ⟨w.heap.size, 2, none⟩ (.string ⟨#[122, 122, 122, 102, 114, 101, 115, 104]⟩)) A1.heap.size (.int .u8 x.kind) (.int .i64 x.num) (.string ⟨#[122, 122, 122, 102, 114, 101, 115, 104]⟩) (.slice a x.len c)) := set4_below (HB.out.setCell (Nat.le_refl _) _) (by have := HS1.out; omega)
      generalize hwF : set4 (A2.setCell ⟨w.heap.size, 2, none⟩ (.string ⟨#[122, 122, 122, 102, 114, 101, 115, 104]⟩)) A1.heap.size (.int .u8 x.kind) (.int .i64 x.num) (.string ⟨#[122, 122, 122, 102, 114, 101, 115, 104]⟩) (.slice a x.len c) = wF at hF hBF ⊢
      clear hwF f0 f1 f2 f3 z0 z1 z2 z3
      obtain ⟨⟨z0, z1, z2, z3⟩, _⟩ := blk4 hF
      refine bodyPost_ret (v := .agg #[.int .u8 x.kind, .int .i64 x.num, .string ⟨#[122, 122, 122, 102, 114, 101, 115, 104]⟩, .slice a x.len c]) (by simp [results, Tryd.results47, go_sem, z0, z1, z2, z3]) rfl ?_
      refine ⟨a, c, by rw [HE.out]; rfl, ?_, hBF⟩
      rw [HE.out]
      have hm : RepIn (fun k => S k ∨ w.heap.size ≤ k) wF x a := HR.out.move (fun k _ hl => hBF.block k hl) (fun k hk _ => .inl hk)
      refine RepIn.mk ⟨hfit.kind, hfit.num, by show freshS.size ≤ _; decide, hfit.len⟩ ?_
      rcases hm.kids with h0 | ⟨b, off, ha, hs, hk⟩
      · exact .inl h0
      · exact .inr ⟨b, off, ha, hs, fun i hi => by
          obtain ⟨ai, ci, h1, h2⟩ := hk i hi
          have e : (Tree.make x.kind x.num freshS x.len x.kid).kid i = x.kid i := Tree.make_kid (show i < x.len from hi)
          exact ⟨ai, ci, by rw [e]; exact h1, by rw [e]; exact h2⟩⟩
    · have hb2 : (x.name.toList == name.toList) = false := str_neq h2
      have HE : Hid (renN name x = x) := if_neg (fun h => h2 h.2)
      clear h1 h2
      go_wp2_with fail
      show bodyPost _ _ _ _ _ (set4 A2 A1.heap.size (.int .u8 x.kind) (.int .i64 x.num) (.string x.name) (.slice a x.len c))
      have hF := set4_at (y0 := .int .u8 x.kind) (y1 := .int .i64 x.num) (y2 := .string x.name) (y3 := .slice a x.len c) HX2.out
      have hBF : Below w.heap.size w (set4 A2 A1.heap.size (.int .u8 x.kind) (.int .i64 x.num) (.string x.name) (.slice a x.len c)) := set4_below HB.out (by have := HS1.out; omega)
      generalize hwF : set4 A2 A1.heap.size (.int .u8 x.kind) (.int .i64 x.num) (.string x.name) (.slice a x.len c) = wF at hF hBF ⊢
      clear hwF f0 f1 f2 f3 z0 z1 z2 z3
      obtain ⟨⟨z0, z1, z2, z3⟩, _⟩ := blk4 hF
      refine bodyPost_ret (v := x.val a c) (by simp [results, Tryd.results47, go_sem, z0, z1, z2, z3]) rfl ?_
      refine ⟨a, c, by rw [HE.out], ?_, hBF⟩
      rw [HE.out]
      exact HR.out.move (fun k _ hl => hBF.block k hl) (fun k hk _ => .inl hk)
  · have hb1 : (x.kind == 2) = false := by simpa using h1
    have HE : Hid (renN name x = x) := if_neg (fun h => h1 h.1)
    clear h1
    go_wp2_with fail
    show bodyPost _ _ _ _ _ (set4 A2 A1.heap.size (.int .u8 x.kind) (.int .i64 x.num) (.string x.name) (.slice a x.len c))
    have hF := set4_at (y0 := .int .u8 x.kind) (y1 := .int .i64 x.num) (y2 := .string x.name) (y3 := .slice a x.len c) HX2.out
    have hBF : Below w.heap.size w (set4 A2 A1.heap.size (.int .u8 x.kind) (.int .i64 x.num) (.string x.name) (.slice a x.len c)) := set4_below HB.out (by have := HS1.out; omega)
    generalize hwF : set4 A2 A1.heap.size (.int .u8 x.kind) (.int .i64 x.num) (.string x.name) (.slice a x.len c) = wF at hF hBF ⊢
    clear hwF f0 f1 f2 f3 z0 z1 z2 z3
    obtain ⟨⟨z0, z1, z2, z3⟩, _⟩ := blk4 hF
    refine bodyPost_ret (v := x.val a c) (by simp [results, Tryd.results47, go_sem, z0, z1, z2, z3]) rfl ?_
    refine ⟨a, c, by rw [HE.out], ?_, hBF⟩
    rw [HE.out]
    exact HR.out.move (fun k _ hl => hBF.block k hl) (fun k hk _ => .inl hk)
theorem rarr_info : (Tryd.prog.info? 52).map (fun i => (i.zero, i.size, i.bytes)) = some (some (.agg #[.string ⟨#[]⟩, .int .i64 0]), 2, 24) := by kernel_rfl
theorem anyName_mem (l : List Arr) (name : ByteArray) : l.any (fun x => decide (x.name = name)) = memB (l.map (·.name)) name := by
  unfold memB
  rw [List.any_map]
  rfl
theorem list9r {α : Type} {l : List α} (h : l.length = 9) : ∃ a0 a1 a2 a3 a4 a5 a6 a7 a8, l = [a0, a1, a2, a3, a4, a5, a6, a7, a8] := by
  match l, h with
  | [a0, a1, a2, a3, a4, a5, a6, a7, a8], _ => exact ⟨a0, a1, a2, a3, a4, a5, a6, a7, a8, rfl⟩
def RunEndR (lo n s : Nat) (P : Value → World → Prop) (a a' : Act) (w' : World) : Prop := ∃ (l : List Value) (v : Value), l.length = n ∧ a' = { a with tmps := (putAll a.tmps lo l).setIfInBounds s v } ∧ P v w'
/-- a name is used but as a variable -/
def usedP (p : Prg) (t : Tsk) (s : ByteArray) : Bool := memB (p.shared.map (·.name) ++ t.arrays.map (·.name)) s || decide (0 < (wantP (usedF s) (t.body.items [])).length)
theorem used_any (p : Prg) (t : Tsk) (q : TskPlace) (s : ByteArray) (pb tb : Nat) (w : World) (sa ta : Option Addr) (sc tc : Nat) (hpx : w.heap[pb]? = some (prgObj p sa sc ta tc)) (htx : w.heap[tb]? = some (tskObj t q)) (hp : PrgAt w p sa ta) (ht : TskIn w t q)
    (h4 : p.shared.length ≤ 100) (h5 : t.arrays.length ≤ 100) (hs : t.body.size ≤ 1000000) (hd : t.body.depth ≤ 10000) :
    Calls Tryd.prog 42 #[.string s, .pointer (some ⟨pb, 0, none⟩), .pointer (some ⟨tb, 0, none⟩)] w fun e w' => e = .returned (.bool (usedP p t s)) ∧ Below w.heap.size w w' := by
  obtain ⟨ti, hti, hz0, hz1, hz2⟩ := info_parts rarr_info
  obtain ⟨A1, hA1⟩ : ∃ A1 : World, w.alloc (.cells #[.string s] 9) = A1 := ⟨_, rfl⟩
  have hB1 : Below w.heap.size w A1 := by rw [← hA1]; exact mem_alloc _ _
  have HN : Hid (A1.heap[w.heap.size]? = some (.cells #[.string s] 9)) := by show _ = _; rw [← hA1]; exact mem_new _ _
  have HB1 := Lib.hid hB1
  have HK : Hid (∀ w', Below A1.heap.size A1 w' → w'.cell? ⟨pb, 0, none⟩ = some (.slice sa p.shared.length sc) ∧ w'.heap[tb]? = some (tskObj t q) ∧ PrgAt w' p sa ta ∧ TskIn w' t q ∧ w'.heap[w.heap.size]? = some (.cells #[.string s] 9) ∧ Below w.heap.size w w') := fun w' h => by
    have hb := HB1.out.trans (h.mono HB1.out.size)
    exact ⟨mem_cell (mem_keep hpx hb) 0, mem_keep htx hb, hp.below hb, ht.below hb, mem_keep HN.out h, hb⟩
  have hsl := hp.1.1
  have hal := ht.arrays.1
  have HPS : Hid (∀ w', Below A1.heap.size A1 w' → Src w' sa p.shared.length 2 (p.shared.flatMap Arr.cells)) := fun w' h => (HK.out w' h).2.2.1.1.src
  have HAS : Hid (∀ w', Below A1.heap.size A1 w' → Src w' q.aa t.arrays.length 2 (t.arrays.flatMap Arr.cells)) := fun w' h => (HK.out w' h).2.2.2.1.arrays.src
  have HSZ : Hid (∀ x ∈ p.shared ++ t.arrays, x.name.size ≤ 9223372036854775807 ∧ isI64 x.len) := fun x hx => by
    rcases List.mem_append.1 hx with hx | hx
    · exact hp.1.sizes x hx
    · exact ht.arrays.sizes x hx
  obtain ⟨r, hr⟩ : ∃ r, usedP p t s = r := ⟨_, rfl⟩
  have HR := Lib.hid hr
  rw [hr]
  clear hr hpx htx hp ht hB1
  go_enter Tryd.func42, Tryd.ntmps42
  go_wp2_with fail
  clear hA1
  obtain ⟨b1, hb1⟩ : ∃ b, memB (p.shared.map (·.name) ++ t.arrays.map (·.name)) s = b := ⟨_, rfl⟩
  have HBB := Lib.hid hb1
  clear hb1
  refine cut_runA (RunEndR 6 9 5 (fun v w' => v = .bool b1 ∧ Below A1.heap.size A1 w')) ?_ ?_
  · refine wp_region_held_drew (S := fun w' => Below A1.heap.size A1 w') (by kernel_rfl) ((Below.refl _ _).drew) (fun hHeld => ?_)
    generalize hwd : World.drew _ = v0 at hHeld ⊢
    clear hwd
    refine wpAnyH_take (i := 1) (v := .pointer (some ⟨pb, 0, none⟩)) rfl (by kernel_rfl) (by kernel_rfl) (by kernel_rfl) (fun _ _ _ h => h) (Or.inl ⟨by rfl, ?_⟩) (by assumption) ?_
    · intro w' hSw; go_simp
    (try simp only [Act.put, List.getElem_toArray, List.getElem_cons_zero, List.getElem_cons_succ, List.setIfInBounds_toArray, List.set_cons_zero, List.set_cons_succ])
    refine wpAnyH_take (i := 2) (v := .slice sa p.shared.length sc) rfl (by kernel_rfl) (by kernel_rfl) (by kernel_rfl) (fun _ _ _ h => h) (Or.inl ⟨by rfl, ?_⟩) (by assumption) ?_
    · intro w' hSw; obtain ⟨c0, _⟩ := HK.out _ hSw; go_simp
    (try simp only [Act.put, List.getElem_toArray, List.getElem_cons_zero, List.getElem_cons_succ, List.setIfInBounds_toArray, List.set_cons_zero, List.set_cons_succ])
    refine wpAnyH_take (i := 4) (v := .pointer (some ⟨tb, 3, none⟩)) rfl (by kernel_rfl) (by kernel_rfl) (by kernel_rfl) (fun _ _ _ h => h) (Or.inl ⟨by rfl, ?_⟩) (by assumption) ?_
    · intro w' hSw; go_simp
    (try simp only [Act.put, List.getElem_toArray, List.getElem_cons_zero, List.getElem_cons_succ, List.setIfInBounds_toArray, List.set_cons_zero, List.set_cons_succ])
    refine wpAnyH_take (i := 5) (v := .slice q.aa t.arrays.length q.ac) rfl (by kernel_rfl) (by kernel_rfl) (by kernel_rfl) (fun _ _ _ h => h) (Or.inl ⟨by rfl, ?_⟩) (by assumption) ?_
    · intro w' hSw; obtain ⟨_, hx, _⟩ := HK.out _ hSw; have z3 := mem_cell hx 3; simp only [Tsk.cells, List.getElem?_toArray, List.getElem?_cons_zero, List.getElem?_cons_succ] at z3; go_simp
    (try simp only [Act.put, List.getElem_toArray, List.getElem_cons_zero, List.getElem_cons_succ, List.setIfInBounds_toArray, List.set_cons_zero, List.set_cons_succ])
    refine wpAnyH_take (i := 7) (v := .func (.func 43) #[] #[.pointer (some ⟨w.heap.size, 0, none⟩)]) rfl (by kernel_rfl) (by kernel_rfl) (by kernel_rfl) (fun _ _ _ h => h) (Or.inl ⟨by rfl, ?_⟩) (by assumption) ?_
    · intro w' hSw; go_simp
    (try simp only [Act.put, List.getElem_toArray, List.getElem_cons_zero, List.getElem_cons_succ, List.setIfInBounds_toArray, List.set_cons_zero, List.set_cons_succ])
    refine wpAnyH_ready (rs := [0]) (by kernel_rfl) (by simp) (AllReadyH.cons rfl (fun K hK => ?_) AllReadyH.nil)
    go_simp
    have hal0 := mem_alloc v0 (.cells #[] 52)
    have HMADE : Hid ((v0.alloc (.cells #[] 52)).ownsRow A1.heap.size 52 2 (.slice (some ⟨v0.heap.size, 0, none⟩) 0 0) 0 []) := ownsRow_base (World.ownsRow_made _ #[] 0 (Nat.le_refl _) (by unfold maxLen; omega) rfl) hHeld.size
    have HB2 := Lib.hid (mem_then hHeld hal0)
    clear hal0
    refine hK.out _ _ (HB2.out) (fun hHeld => ?_)
    clear hK K
    rename_i hOld
    clear hOld
    (try simp only [Act.put, List.getElem_toArray, List.getElem_cons_zero, List.getElem_cons_succ, List.setIfInBounds_toArray, List.set_cons_zero, List.set_cons_succ])
    refine wpAnyH_ready (rs := [3]) (by kernel_rfl) (by simp) (AllReadyH.cons rfl (fun K hK => ?_) AllReadyH.nil)
    refine step_append_src _ rfl (.tmp 6) (.tmp 8) 22 rfl A1.heap.size 52 ti _ 2 24 Tryd.underlying22 hti hz0 hz1 hz2 rfl (by decide) (.slice (some ⟨v0.heap.size, 0, none⟩) 0 0) 0 [] (by simp [Act.eval]) HMADE.out sa p.shared.length sc (p.shared.flatMap Arr.cells) (by simp [Act.eval]) (HPS.out _ HB2.out) arrs_ones (by unfold maxLen; omega) (by omega) HB2.out.size ?_
    intro v5 w5 hown5 hgrow5 _
    rw [Nat.zero_add, List.nil_append] at hown5
    obtain ⟨a5, c5, rfl⟩ := own_val hown5
    have HB5 := Lib.hid (HB2.out.grown hgrow5 HB2.out.size (fun b hb => (own_lt HMADE.out hb).1))
    have HOWN5 := Lib.hid hown5
    clear hown5 hgrow5
    refine hK.out _ _ (HB5.out) (fun hHeld => ?_)
    clear hK K
    rename_i hOld
    clear hOld
    (try simp only [Act.put, List.getElem_toArray, List.getElem_cons_zero, List.getElem_cons_succ, List.setIfInBounds_toArray, List.set_cons_zero, List.set_cons_succ])
    refine wpAnyH_ready (rs := [6]) (by kernel_rfl) (by simp) (AllReadyH.cons rfl (fun K hK => ?_) AllReadyH.nil)
    refine step_append_src _ rfl (.tmp 9) (.tmp 11) 22 rfl A1.heap.size 52 ti _ 2 24 Tryd.underlying22 hti hz0 hz1 hz2 rfl (by decide) (.slice a5 p.shared.length c5) p.shared.length (p.shared.flatMap Arr.cells) (by simp [Act.eval]) HOWN5.out q.aa t.arrays.length q.ac (t.arrays.flatMap Arr.cells) (by simp [Act.eval]) (HAS.out _ HB5.out) arrs_ones (by unfold maxLen; omega) (by omega) HB5.out.size ?_
    intro v6 w6 hown6 hgrow6 _
    obtain ⟨a6, c6, rfl⟩ := own_val hown6
    have HB6 := Lib.hid (HB5.out.grown hgrow6 HB5.out.size (fun b hb => (own_lt HOWN5.out hb).1))
    have HARR : Hid (ArrsAt w6 a6 (p.shared ++ t.arrays)) := arrs_own (c := c6) (by rw [List.length_append, List.flatMap_append]; exact hown6) HSZ.out
    clear hown6 hgrow6
    refine hK.out _ _ (HB6.out) (fun hHeld => ?_)
    clear hK K
    rename_i hOld
    clear hOld
    (try simp only [Act.put, List.getElem_toArray, List.getElem_cons_zero, List.getElem_cons_succ, List.setIfInBounds_toArray, List.set_cons_zero, List.set_cons_succ])
    have h9 := has_any (fun y => decide (y.name = s)) 43 #[.pointer (some ⟨w.heap.size, 0, none⟩)] (enters_of Tryd.func43 (by kernel_rfl) rfl) (p.shared ++ t.arrays) w6 a6 c6 HARR.out (fun y W' hb => arrName_any s w.heap.size y W' (mem_keep HN.out (mem_then HB6.out hb)))
    rw [anyName_mem, List.map_append, HBB.out, List.length_append] at h9
    have H9 := Lib.hid h9
    clear h9
    refine wpAnyH_ready (rs := [8]) (by kernel_rfl) (by simp) (AllReadyH.cons rfl (fun K hK => ?_) AllReadyH.nil)
    go_simp
    have h9 := H9.out
    refine h9.mono ?_
    clear h9
    rintro e w7 ⟨rfl, hB7⟩
    have HB7 := Lib.hid (mem_then HB6.out hB7)
    clear hB7
    refine hK.out _ _ (HB7.out) (fun hHeld => ?_)
    clear hK K
    rename_i hOld
    clear hOld
    (try simp only [Act.put, List.getElem_toArray, List.getElem_cons_zero, List.getElem_cons_succ, List.setIfInBounds_toArray, List.set_cons_zero, List.set_cons_succ])
    refine wpAnyH_ready (rs := [9]) (by kernel_rfl) (by simp) (AllReadyH.cons rfl (fun K hK => ?_) AllReadyH.nil)
    go_simp
    refine hK.out _ _ (HB7.out) (fun hHeld => ?_)
    clear hK K
    rename_i hOld
    clear hOld
    (try simp only [Act.put, List.getElem_toArray, List.getElem_cons_zero, List.getElem_cons_succ, List.setIfInBounds_toArray, List.set_cons_zero, List.set_cons_succ])
    refine wpAnyH_done (by kernel_rfl) ?_ _
    exact ⟨[_, _, _, _, _, _, _, _, _], _, rfl, (by simp only [putAll, List.setIfInBounds_toArray, List.set_cons_zero, List.set_cons_succ]; rfl), rfl, HB7.out⟩
  · rintro a' w7 ⟨ll, vv, hll2, rfl, rfl, hB7⟩
    obtain ⟨l0, l1, l2, l3, l4, l5, l6, l7, l8, rfl⟩ := list9r hll2
    simp only [List.cons_append, List.nil_append, putAll, List.setIfInBounds_toArray, List.set_cons_zero, List.set_cons_succ]
    have HB7 := Lib.hid hB7
    obtain ⟨_, hx, _, hti7, _, _⟩ := HK.out w7 hB7
    have x4 := mem_cell hx 4
    have x5 := mem_cell hx 5
    have x6 := mem_cell hx 6
    have x7 := mem_cell hx 7
    simp only [Tsk.cells, List.getElem?_toArray, List.getElem?_cons_zero, List.getElem?_cons_succ] at x4 x5 x6 x7
    cases b1 with
    | true =>
      have HE : Hid (r = true) := by show _ = _; rw [← HR.out]; unfold usedP; rw [HBB.out]; rfl
      have HEND := Lib.hid (HK.out w7 hB7).2.2.2.2.2
      clear hx hti7 hll2 hB7
      go_wp2_with fail
      go_ret
      exact ⟨by rw [HE.out]; rfl, HEND.out⟩
    | false =>
      have h8 := where_any (usedF s) 44 #[.pointer (some ⟨w.heap.size, 0, none⟩)] (enters_of Tryd.func44 (by kernel_rfl) rfl) t.body w7 q.ka q.kc hti7.body hs hd (fun x W' a c hb hr => usedF_any s w.heap.size x W' a c hr (HK.out W' (mem_then HB7.out hb)).2.2.2.2.1)
      have HW8 : Hid (r = decide (0 < (wantP (usedF s) (t.body.items [])).length)) := by
        show _ = _
        rw [← HR.out]; unfold usedP; rw [HBB.out, Bool.false_or]
      obtain ⟨n, hn⟩ : ∃ n, (wantP (usedF s) (t.body.items [])).length = n := ⟨_, rfl⟩
      rw [hn] at h8 HW8
      have H8 := Lib.hid h8
      clear hx hti7 hll2 hB7 h8 hn
      go_wp2_with fail
      clear x4 x5 x6 x7
      have h9 := H8.out
      refine h9.mono ?_
      clear h9
      rintro e w8 ⟨a8, c8, rfl, _, hB8⟩
      have HEND := Lib.hid (HK.out w8 (mem_then HB7.out hB8)).2.2.2.2.2
      clear hB8
      go_wp2_with fail
      go_ret
      exact ⟨by rw [HW8.out]; rfl, HEND.out⟩
end Go.Proofs.YtnegdmhmhdojbaaDoor
