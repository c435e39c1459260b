/-
  RefBlocks: several texts in one (AppFull, Ref16X, Ref16B, Ref16G, Ref16D, Ref16H, Ref16K, Ref16P).
-/
import Derived.Test.YtgochgcchkdlmaaDoorPuts
import Derived.Test.YtgochgcchkdlmaaDoorBases
import Derived.Test.YtgochgcchkdlmaaDoorRefSteps
import Derived.Test.YtgochgcchkdlmaaDoorInStates
import Derived.Test.YtgochgcchkdlmaaDoorInUnrollP
import Derived.Test.YtgochgcchkdlmaaDoorInStmts
/-
  append onto a full slice that is only read (s[:k:k], or nil): always a new row. No program is named here.
-/
namespace Go.Proofs.YtgochgcchkdlmaaDoor
set_option linter.unusedVariables false
set_option linter.unusedSimpArgs false
open Go.RowKit

theorem run_append_full {P : Program} (w : World) (base : Nat) (t ty e : TypeId) (i : TypeInfo) (z : Value) (size bytes : Nat) (ht : P.underlying t = some (.slice e)) (hi : P.info? e = some i) (hz : i.zero = some z)
    (hsize : i.size = size) (hby : i.bytes = bytes) (hzs : z.cells.size = size) (A : Option Addr) (n : Nat) (xs : List Value) (hA : Src w A n size xs)
    (ad : Addr) (m c : Nat) (news : List Value) (hr : Src w (some ad) m size news) (hm : 0 < m) (h63 : n + m ≤ maxLen) (hbytes : (n + m) * bytes ≤ 140737488355328) (hbase : base ≤ w.heap.size) :
    ∃ cap w', (Builtin.append_ #[t, t] ty #[.slice A n n, .slice (some ad) m c]).run P w = .ok (.slice (some ⟨w.heap.size, 0, none⟩) (n + m) cap) w' ∧ n + m ≤ cap ∧ w'.ownsRow base e size (.slice (some ⟨w.heap.size, 0, none⟩) (n + m) cap) (n + m) (xs ++ news) ∧ Below w.heap.size w w' := by
  subst hsize
  subst hby
  have hlen : (xs ++ news).length = (n + m) * i.size := by rw [List.length_append, hA.1, hr.1, Nat.add_mul]
  have hnews : ∀ j u, news[j]? = some u → w.cell? (ad.add j) = some u := by
    rcases hr.2 with h | ⟨ad', h, hc⟩
    · omega
    · cases h; exact hc
  have hsmall : n + m ≤ 9223372036854775807 := by simp only [maxLen] at h63; omega
  have hge := grownCap_ge w (n + m) n e
  have hcm : grownCap w (n + m) n e ≤ maxLen := grownCap_le_maxLen w (n + m) n e h63
  have key : (w.drew.alloc (.cells (xs.toArray ++ news.toArray ++ Builtin.zeroCells z.cells (grownCap w (n + m) n e - (n + m))) e)).ownsRow base e i.size
        (.slice (some ⟨w.heap.size, 0, none⟩) (n + m) (grownCap w (n + m) n e)) (n + m) (xs ++ news) := by
    refine ⟨hlen, .inr ⟨w.heap.size, _, _, rfl, hbase, heap_alloc_new w.drew _, hge, hcm, ?_, ?_⟩⟩
    · simp only [Array.size_append, List.size_toArray, size_zeroCells, hzs, hA.1, hr.1, ← Nat.add_mul]
      congr 1
      omega
    · simp only [Array.toList_append, List.append_assoc]
      rw [← List.append_assoc, ← hlen]
      exact List.take_left
  have hbel : Below w.heap.size w (w.drew.alloc (.cells (xs.toArray ++ news.toArray ++ Builtin.zeroCells z.cells (grownCap w (n + m) n e - (n + m))) e)) := (Below.refl _ _).drew.alloc (Nat.le_refl _) _
  refine ⟨grownCap w (n + m) n e, _, ?_, hge, key, hbel⟩
  cases A with
  | none =>
    have h0 : n = 0 := by
      rcases hA.2 with h | ⟨ad', h, _⟩
      · exact h
      · cases h
    subst h0
    have hx : xs = [] := List.length_eq_zero_iff.1 (by rw [hA.1]; omega)
    subst hx
    have hr2 := run_append_nil (P := P) w t ty e i z ht hi hz ad m c news hr.1 hnews hm (by omega) (by have hb := hbytes; simp only [Nat.zero_add] at hb; omega)
    simp only [Nat.zero_add, Array.empty_append] at hr2 ⊢
    exact hr2
  | some b =>
    have holds : ∀ j u, xs[j]? = some u → w.cell? (b.add j) = some u := by
      rcases hA.2 with h | ⟨ad', h, hc⟩
      · intro j u hu
        have hn : xs = [] := List.length_eq_zero_iff.1 (by rw [hA.1, h]; omega)
        subst hn
        cases hu
      · cases h
        exact hc
    exact run_append_grow (P := P) w t ty e i z ht hi hz b n n xs hA.1 holds ad m c news hr.1 hnews (by omega) (by omega) (growslice_fits (by omega) hbytes)
theorem step_append_full {P : Program} (w : World) {ops : Array Oper} {o : Oper} {a : Act} {K : Act → World → Prop} {Q : Exit → Act → World → Prop} {E : Prop}
    (hg : o.guard = none) (s x : Operand) (t : TypeId) (hop : o.op = Op.call { callee := Callee.builtin Builtin.append, args := #[s, x], argTypes := #[t, t] })
    (base : Nat) (e : TypeId) (i : TypeInfo) (z : Value) (size bytes : Nat) (ht : P.underlying t = some (.slice e)) (hi : P.info? e = some i) (hz : i.zero = some z)
    (hsize : i.size = size) (hby : i.bytes = bytes) (hzs : z.cells.size = size) (A : Option Addr) (n : Nat) (xs : List Value) (hs : a.eval s = .slice A n n) (hA : Src w A n size xs)
    (ad : Addr) (m c : Nat) (news : List Value) (hx : a.eval x = .slice (some ad) m c) (hr : Src w (some ad) m size news) (hm : 0 < m) (h63 : n + m ≤ maxLen) (hbytes : (n + m) * bytes ≤ 140737488355328) (hbase : base ≤ w.heap.size)
    (hK : ∀ cap w', n + m ≤ cap → w'.ownsRow base e size (.slice (some ⟨w.heap.size, 0, none⟩) (n + m) cap) (n + m) (xs ++ news) → Below w.heap.size w w' → K (a.put o.dst (.slice (some ⟨w.heap.size, 0, none⟩) (n + m) cap)) w') :
    if Region.wanted o (yielded ops a.tmps) = true then Oper.wp P o a w K Q else E := by
  have hw : Region.wanted o (yielded ops a.tmps) = true := by simp [Region.wanted, hg]
  rw [if_pos hw]
  obtain ⟨cap, w', hrun, r0, r1, r2⟩ := run_append_full (P := P) w base t o.type e i z size bytes ht hi hz hsize hby hzs A n xs hA ad m c news hr hm h63 hbytes hbase
  unfold Oper.wp
  simp [execOp, hop, resolve, invoke, builtin, hs, hx, hrun, Result.andThen]
  exact hK cap w' r0 r1 r2
end Go.Proofs.YtgochgcchkdlmaaDoor

/-
  The reference's state against the interpreter's (package ontimeref16): names that stay, stores, loop variables; what a block or a statement of the reference answers.
-/
namespace Go.Proofs.YtgochgcchkdlmaaDoor
set_option linter.unusedVariables false
set_option linter.unusedSimpArgs false
open Go.RowKit Go.Maps
set_option maxRecDepth 100000
set_option maxHeartbeats 80000000

/-! ### plainly -/
/-- the names and kinds of cells -/
def celN (cs : List Cel) : List (ByteArray × Bool) := cs.map fun c => (c.name, c.arr)
theorem celN_len {cs cs' : List Cel} (h : celN cs = celN cs') : cs.length = cs'.length := by
  have := congrArg List.length h
  simpa [celN] using this
theorem celN_put {cs : List Cel} {k i : Nat} {c : Cel} {x : Int} (hk : cs[k]? = some c) : celN (cs.set k (c.put i x)) = celN cs := by
  unfold celN
  rw [List.map_set]
  refine List.ext_getElem? fun j => ?_
  by_cases e : j = k
  · subst e
    have hl := (List.getElem?_eq_some_iff.1 hk).1
    rw [List.getElem?_set_self (by simpa using hl), List.getElem?_map, hk]
    rfl
  · rw [List.getElem?_set_ne (fun h => e h.symm)]
/-- a cell of that name and kind is there -/
def Has (cs : List Cel) (nm : ByteArray) (ar : Bool) : Prop := ∃ (k : Nat) (c : Cel), cs[k]? = some c ∧ c.hit nm ar
theorem Has.of_mem {cs : List Cel} {nm : ByteArray} {ar : Bool} (h : (nm, ar) ∈ celN cs) : Has cs nm ar := by
  obtain ⟨c, hc, e⟩ := List.mem_map.1 h
  obtain ⟨k, hk⟩ := List.getElem?_of_mem hc
  injection e with e1 e2
  exact ⟨k, c, hk, e1, e2⟩
theorem Has.mem {cs : List Cel} {nm : ByteArray} {ar : Bool} (h : Has cs nm ar) : (nm, ar) ∈ celN cs := by
  obtain ⟨k, c, hk, h1, h2⟩ := h
  exact List.mem_map.2 ⟨c, List.mem_of_getElem? hk, by rw [h1, h2]⟩
theorem Has.same {cs cs' : List Cel} {nm : ByteArray} {ar : Bool} (h : Has cs nm ar) (e : celN cs' = celN cs) : Has cs' nm ar := Has.of_mem (by rw [e]; exact h.mem)
/-- a cell more: a loop's variable -/
theorem celV_add (cs : List Cel) (nm : ByteArray) (i : Int) : celV (cs ++ [⟨nm, false, [i]⟩]) = upd (celV cs) nm (some i) := by
  unfold celV celL
  rw [List.filterMap_append, show [(⟨nm, false, [i]⟩ : Cel)].filterMap fV = [(nm, i)] from rfl]
  exact fP_snoc _ _
theorem celA_add (cs : List Cel) (nm : ByteArray) (i : Int) : celA (cs ++ [⟨nm, false, [i]⟩]) = celA cs := by
  unfold celA celL
  rw [List.filterMap_append, show [(⟨nm, false, [i]⟩ : Cel)].filterMap fA = [] from rfl, List.append_nil]
/-- and one less -/
theorem celV_drop {cs : List Cel} {c : Cel} (hc : c.arr = false) (hn : ¬ Has cs c.name false) : upd (celV (cs ++ [c])) c.name none = celV cs := by
  have h0 : celV cs c.name = none := celL_none fV_ar (fun k d hk hh => hn ⟨k, d, hk, hh⟩)
  have e : celV (cs ++ [c]) = upd (celV cs) c.name (some (c.l.getD 0 0)) := by
    unfold celV celL
    rw [List.filterMap_append, show [c].filterMap fV = [(c.name, c.l.getD 0 0)] by simp [fV, hc]]
    exact fP_snoc _ _
  rw [e]
  funext nm
  by_cases h : nm = c.name
  · subst h; rw [upd_same, h0]
  · rw [upd_other _ _ h, upd_other _ _ h]
theorem celA_drop {cs : List Cel} {c : Cel} (hc : c.arr = false) : celA (cs ++ [c]) = celA cs := by
  unfold celA celL
  rw [List.filterMap_append, show [c].filterMap fA = [] by simp [fA, hc], List.append_nil]
/-- a store to a variable, to an element -/
theorem store_var {cs : List Cel} {k : Nat} {c : Cel} {nm : ByteArray} {x : Int} (hk : cs[k]? = some c) (hh : c.hit nm false) (hl : c.l.length = 1) (hn : ∀ (k' : Nat) (d : Cel), k < k' → cs[k']? = some d → ¬ d.hit nm false) :
    celV (cs.set k (c.put 0 x)) = upd (celV cs) nm (some x) ∧ celA (cs.set k (c.put 0 x)) = celA cs := by
  obtain ⟨rfl, ha⟩ := hh
  exact cel_put_v hk ha hl hn
theorem store_arr {cs : List Cel} {k : Nat} {c : Cel} {nm : ByteArray} {i x : Int} {s : St} (hA : s.A = celA cs) (hk : cs[k]? = some c) (hh : c.hit nm true) (hn : ∀ (k' : Nat) (d : Cel), k < k' → cs[k']? = some d → ¬ d.hit nm true) :
    celV (cs.set k (c.put i.toNat x)) = celV cs ∧ s.putA nm i x = if 0 ≤ i ∧ i < (c.l.length : Int) then ({ s with A := celA (cs.set k (c.put i.toNat x)) }, 0) else (s, 11) := by
  obtain ⟨rfl, ha⟩ := hh
  obtain ⟨h1, h2, h3⟩ := cel_put_a (i := i.toNat) (x := x) hk ha hn
  refine ⟨h1, ?_⟩
  unfold St.putA
  rw [hA, h3, h2]
/-! ### in memory -/
/-- the state s in memory, as the reference keeps it; its variables only if er = 0 (an error leaves a loop's variable in s) -/
structure RSt (B : Nat) (F : Int) (inp : List Int) (w : World) (s : St) (er : Int) (cs : List Cel) (y : Nat → Value) (ca : Option Addr) (ia : Option Addr) (oa : Option Addr) (oc : Nat) : Prop where
  own : CelsOwn B w ca cs y
  V : er = 0 → s.V = celV cs
  A : s.A = celA cs
  out : w.ownsRow B 80 2 (.slice oa s.out.length oc) s.out.length (outCells s.out)
  inr : I32R B w ia inp
  inl : inp.length ≤ 1000000
  fitI : ∀ x ∈ inp, Wd.W x
  stF : s.st ≤ F.toNat
  cnt : s.rd ≤ s.st ∧ s.out.length ≤ s.st
/-- what a block or a statement leaves alone -/
structure FrR (B n : Nat) (y : Nat → Value) (w w' : World) : Prop where
  low : Below B w w'
  still : ∀ (b : Nat) (o : Obj), w.heap[b]? = some o → NotOut o → (∀ k, k < n → (y k).ownBlock ≠ some b) → w'.heap[b]? = some o
theorem FrR.refl {B n : Nat} {y : Nat → Value} {w : World} : FrR B n y w w := ⟨Below.refl _ _, fun _ _ h _ _ => h⟩
theorem FrR.trans {B n : Nat} {y : Nat → Value} {w w' w'' : World} (h : FrR B n y w w') (h' : FrR B n y w' w'') : FrR B n y w w'' := ⟨h.low.trans h'.low, fun b o h1 h2 h3 => h'.still b o (h.still b o h1 h2 h3) h2 h3⟩
theorem FrR.ofC {B n : Nat} {y : Nat → Value} {w w' : World} (h : FrC B n y w w') : FrR B n y w w' := ⟨h.low, fun b o h1 _ h3 => (h.still b (mem_lt h1) h3).trans h1⟩
theorem FrR.ofB {B n : Nat} {y : Nat → Value} {w w' : World} (h : Below w.heap.size w w') (hB : B ≤ w.heap.size) : FrR B n y w w' := FrR.ofC (FrC.of h hB)
/-- how a block or a statement of the reference answers, against r -/
def RQ (B : Nat) (F : Int) (inp : List Int) (cs : List Cel) (y : Nat → Value) (ia : Option Addr) (ic : Nat) (w : World) (r : SR) (e : Ending) (w' : World) : Prop :=
  ∃ (cs' : List Cel) (ca' : Option Addr) (cc' : Nat) (oa' : Option Addr) (oc' : Nat), e = .returned (envVal ca' cs'.length cc' ia inp.length ic oa' r.1.out.length oc' (r.1.rd : Int) (r.1.st : Int) F r.2) ∧
    celN cs' = celN cs ∧ cs'.length ≤ cc' ∧ RSt B F inp w' r.1 r.2 cs' y ca' ia oa' oc' ∧ FrR B cs.length y w w'
end Go.Proofs.YtgochgcchkdlmaaDoor

/-
  Contract: Block (package ontimeref16), out of what its statements do.
-/
namespace Go.Proofs.YtgochgcchkdlmaaDoor
set_option linter.unusedVariables false
set_option linter.unusedSimpArgs false
open Go.RowKit Go.Maps
set_option maxRecDepth 100000
set_option maxHeartbeats 80000000

section
variable {B : Nat} {F er : Int} {inp : List Int} {w w' : World} {s : St} {cs : List Cel} {y : Nat → Value} {ca ia oa : Option Addr} {oc : Nat}
theorem RSt.below (h : RSt B F inp w s er cs y ca ia oa oc) (hb : Below w.heap.size w w') (hB : B ≤ w.heap.size) : RSt B F inp w' s er cs y ca ia oa oc :=
  ⟨h.own.below hb, h.V, h.A, own_below h.out hb, h.inr.low (hb.mono hB), h.inl, h.fitI, h.stF, h.cnt⟩
theorem RSt.off {q : Nat} {arr : Array Value} (h : RSt B F inp w s er cs y ca ia oa oc) (hq : w.heap[q]? = some (.cells arr 45)) (hf : ∀ b, b ≠ q → w'.heap[b]? = w.heap[b]?) (hlow : Below B w w') : RSt B F inp w' s er cs y ca ia oa oc :=
  ⟨h.own.off hq hf, h.V, h.A, own_keep h.out (fun b hb _ => hf b (fun e => own_other h.out hq (by decide) (by rw [hb, e]))), h.inr.low hlow, h.inl, h.fitI, h.stF, h.cnt⟩
end
theorem FrR.far {B n q : Nat} {y : Nat → Value} {w w1 w2 : World} (h : FrR B n y w w1) (hq : w.heap.size ≤ q) (hlow : Below B w w2) (hf : ∀ b, b ≠ q → w2.heap[b]? = w1.heap[b]?) : FrR B n y w w2 :=
  ⟨hlow, fun b o h1 h2 h3 => (hf b (by have := mem_lt h1; omega)).trans (h.still b o h1 h2 h3)⟩
/-- what a statement of the reference does, for every state of these names -/
def SOk (B : Nat) (F : Int) (inp : List Int) (ia : Option Addr) (ic : Nat) (N : List (ByteArray × Bool)) (y : Nat → Value) (f : FuncId) (t : Tree) (x : St → SR) : Prop :=
  ∀ (w : World) (s : St) (cs : List Cel) (ca : Option Addr) (cc : Nat) (oa : Option Addr) (oc : Nat) (a : Option Addr) (c : Nat), celN cs = N → cs.length ≤ cc → B ≤ w.heap.size → InB B w t a → RSt B F inp w s 0 cs y ca ia oa oc →
    Calls Tryd.prog f #[t.val a c, envVal ca cs.length cc ia inp.length ic oa s.out.length oc (s.rd : Int) (s.st : Int) F 0] w (RQ B F inp cs y ia ic w (x s))
theorem block16_of {B : Nat} {F : Int} {inp : List Int} {ia : Option Addr} {ic : Nat} {N : List (ByteArray × Bool)} {y : Nat → Value} (t : Tree) (hk : ∀ i, i < t.len → SOk B F inp ia ic N y 58 (t.kid i) ((t.kid i).ex F inp)) :
    SOk B F inp ia ic N y 41 t (seqTo (kidX F inp t) t.len) := by
  intro w s cs ca cc oa oc a c hN hcc hB hr hst
  obtain ⟨W1, hW1⟩ : ∃ W : World, w.alloc (ndObj t a c) = W := ⟨_, rfl⟩
  obtain ⟨W2, hW2⟩ : ∃ W : World, W1.alloc (envObj ca cs.length cc ia inp.length ic oa s.out.length oc (s.rd : Int) (s.st : Int) F 0) = W := ⟨_, rfl⟩
  obtain ⟨W3, hW3⟩ : ∃ W : World, W2.alloc (envObj none 0 0 none 0 0 none 0 0 0 0 0 0) = W := ⟨_, rfl⟩
  have b1 : Below w.heap.size w W1 := by rw [← hW1]; exact mem_alloc _ _
  have b2 : Below W1.heap.size W1 W2 := by rw [← hW2]; exact mem_alloc _ _
  have b3 : Below W2.heap.size W2 W3 := by rw [← hW3]; exact mem_alloc _ _
  have HX1 : Hid (W3.heap[w.heap.size]? = some (ndObj t a c)) := mem_keep (by rw [← hW1]; exact mem_new _ _) (mem_then b2 b3)
  have HX2 : Hid (W3.heap[W1.heap.size]? = some (envObj ca cs.length cc ia inp.length ic oa s.out.length oc (s.rd : Int) (s.st : Int) F 0)) := mem_keep (by rw [← hW2]; exact mem_new _ _) b3
  have HX3 : Hid (W3.heap[W2.heap.size]? = some (envObj none 0 0 none 0 0 none 0 0 0 0 0 0)) := by show _ = _; rw [← hW3]; exact mem_new _ _
  have HB3 := Lib.hid (mem_then b1 (mem_then b2 b3))
  have HL : Hid (w.heap.size < W1.heap.size ∧ W1.heap.size < W2.heap.size ∧ W2.heap.size < W3.heap.size) := by
    refine ⟨?_, ?_, ?_⟩
    · rw [← hW1]; simp
    · rw [← hW2]; simp
    · rw [← hW3]; simp
  have HBB : Hid (B ≤ w.heap.size) := hB
  have HST := Lib.hid (hst.below HB3.out hB)
  have HNN := Lib.hid hN
  have HR := Lib.hid hr
  have HKO := Lib.hid hk
  have HCC := Lib.hid hcc
  have hlf := hr.fits.len
  have HYS : Hid (∀ k, k < cs.length → ∀ b, (y k).ownBlock = some b → b < w.heap.size) := fun k hk b hb => (own_lt (hst.own.own k _ (List.getElem?_eq_getElem hk)) hb).2
  clear hN hB hr hst hk hcc b1 b2 b3
  go_enter Tryd.func41, Tryd.ntmps41
  go_wp2_with fail
  try rw [hW1]
  try rw [hW2]
  try rw [hW3]
  clear hW1 hW2 hW3
  go_loopw [5] (fun iv wr => ∃ (j : Nat) (s1 : St) (er : Int) (cs1 : List Cel) (ca1 : Option Addr) (cc1 : Nat) (oa1 : Option Addr) (oc1 : Nat), j ≤ t.len ∧ iv = .int .i64 (j : Int) ∧ seqTo (kidX F inp t) j s = (s1, er) ∧ celN cs1 = N ∧ cs1.length ≤ cc1 ∧ RSt B F inp wr s1 er cs1 y ca1 ia oa1 oc1 ∧
    wr.heap[W1.heap.size]? = some (envObj ca1 cs1.length cc1 ia inp.length ic oa1 s1.out.length oc1 (s1.rd : Int) (s1.st : Int) F er) ∧ wr.heap[w.heap.size]? = some (ndObj t a c) ∧ wr.heap[W2.heap.size]? = some (envObj none 0 0 none 0 0 none 0 0 0 0 0 0) ∧ FrR B cs.length y w wr ∧ W3.heap.size ≤ wr.heap.size) (fun iv _ => t.len - (intOf iv).toNat)
  case atStart => exact ⟨0, s, 0, cs, ca, cc, oa, oc, Nat.zero_le _, rfl, rfl, HNN.out, HCC.out, HST.out, HX2.out, HX1.out, HX3.out, FrR.ofB HB3.out HBB.out, Nat.le_refl _⟩
  case round =>
    obtain ⟨j, s1, er, cs1, ca1, cc1, oa1, oc1, hj, rfl, hseq, hn1, hcc1, hst1, hx2, hx1, hx3, hfr, hsz⟩ := hrel
    have HSEQ := Lib.hid hseq
    have HN1 := Lib.hid hn1
    have HCC1 := Lib.hid hcc1
    have HST1 := Lib.hid hst1
    have HX2' := Lib.hid hx2
    have HX1' := Lib.hid hx1
    have HX3' := Lib.hid hx3
    have HFR := Lib.hid hfr
    have HSZ := Lib.hid hsz
    have hj0 : (0 : Int) ≤ (j : Int) := by omega
    obtain ⟨x0, x1, x2, x3⟩ := nd_cells hx1
    obtain ⟨e0, e1, e2, e3, e4, e5, e6⟩ := env_cells hx2
    clear hseq hn1 hcc1 hst1 hx1 hx2 hx3 hfr hsz
    by_cases hgo : j < t.len ∧ er = 0
    · obtain ⟨hlt, rfl⟩ := hgo
      have hlt2 : (j : Int) < (t.len : Int) := by omega
      obtain ⟨kb, ko, rfl, hkb, ai, ci, hnn, hri⟩ := kid_in HR.out hlt
      have HND : Hid (∀ w', Below B w w' → NodeAt w' kb (ko + j * 4) (t.kid j) ai ci) := fun w' hw => hnn.below hw hkb
      have hc : ∀ w', Below wr.heap.size wr w' → Calls Tryd.prog 58 #[(t.kid j).val ai ci, envVal ca1 cs1.length cc1 ia inp.length ic oa1 s1.out.length oc1 (s1.rd : Int) (s1.st : Int) F 0] w' (RQ B F inp cs1 y ia ic w' ((t.kid j).ex F inp s1)) := fun w' hw =>
        HKO.out j hlt w' s1 cs1 ca1 cc1 oa1 oc1 ai ci HN1.out HCC1.out (by have := HBB.out; have := HL.out; have := HSZ.out; have := hw.size; omega) (hri.low (HFR.out.low.trans (hw.mono (by have := HBB.out; have := HL.out; have := HSZ.out; omega)))) (HST1.out.below hw (by have := HBB.out; have := HL.out; have := HSZ.out; omega))
      have hnx : seqTo (kidX F inp t) (j + 1) s = (t.kid j).ex F inp s1 := by
        rw [seqTo_next HSEQ.out]; unfold kidX; rw [if_pos hlt]
      obtain ⟨u, hu⟩ : ∃ u, t.kid j = u := ⟨_, rfl⟩
      rw [hu] at HND hc hnx
      obtain ⟨⟨s2, er2⟩, hr2⟩ : ∃ r, u.ex F inp s1 = r := ⟨_, rfl⟩
      rw [hr2] at hc hnx
      have HC := Lib.hid hc
      have HNX := Lib.hid hnx
      have HLEN := Lib.hid (celN_len (HN1.out.trans HNN.out.symm))
      clear hnn hri hc hnx hu hr2
      go_upto_region 4 with fail
      clear x0 x1 x2 x3 e0 e1 e2 e3 e4 e5 e6
      have hD0 : Below wr.heap.size wr (World.drew wr) := (Below.refl _ _).drew
      have hBw : B ≤ wr.heap.size := by have := HBB.out; have := HL.out; have := HSZ.out; omega
      refine wp_region_z 7 (S := fun w' => Below B w w' ∧ w'.heap[w.heap.size]? = some (ndObj t (some ⟨kb, ko, none⟩) c) ∧ w'.heap[W1.heap.size]? = some (envObj ca1 cs1.length cc1 ia inp.length ic oa1 s1.out.length oc1 (s1.rd : Int) (s1.st : Int) F 0)) (by kernel_rfl) ⟨HFR.out.low.trans (hD0.mono hBw), mem_keep HX1'.out hD0, mem_keep HX2'.out hD0⟩ (fun hHeld => ?_)
      generalize hwd : World.drew wr = V0 at hHeld hD0 ⊢
      clear hwd
      have HD0 := Lib.hid hD0
      have HBw : Hid (B ≤ wr.heap.size) := hBw
      clear hD0 hBw
      refine zT 0 (.pointer (some ⟨w.heap.size, 3, none⟩)) rfl (hy := ?_) (h := ?_)
      · intro w' hSw; go_simp
      (try simp only [Act.put, pA, pB, pD, pE, pF])
      refine zT 1 (.slice (some ⟨kb, ko, none⟩) t.len c) rfl (hy := ?_) (h := ?_)
      · intro w' hSw; obtain ⟨z0, z1, z2, z3⟩ := nd_cells hSw.2.1; go_simp
      (try simp only [Act.put, pA, pB, pC, pD, pE, pF])
      refine zT 2 (.int .i64 (j : Int)) rfl (hy := ?_) (h := ?_)
      · intro w' hSw; go_simp
      (try simp only [Act.put, pA, pB, pC, pD, pE, pF])
      refine zT 3 (.pointer (some ⟨kb, ko + j * 4, none⟩)) rfl (hy := ?_) (h := ?_)
      · intro w' hSw; go_simp
      (try simp only [Act.put, pA, pB, pC, pD, pE, pF])
      refine zT 4 (u.val ai ci) rfl (hy := ?_) (h := ?_)
      · intro w' hSw; obtain ⟨z0, z1, z2, z3⟩ := HND.out _ hSw.1; go_simp
      (try simp only [Act.put, pA, pB, pC, pD, pE, pF])
      refine zT 5 (envVal ca1 cs1.length cc1 ia inp.length ic oa1 s1.out.length oc1 (s1.rd : Int) (s1.st : Int) F 0) rfl (hy := ?_) (h := ?_)
      · intro w' hSw; obtain ⟨z0, z1, z2, z3, z4, z5, z6⟩ := env_cells hSw.2.2; go_simp
      (try simp only [Act.put, pA, pB, pC, pD, pE, pF])
      refine zR 6 rfl (fun K hK => ?_)
      go_simp
      refine (HC.out V0 HD0.out).mono ?_
      rintro e E2 ⟨cs2, ca2, cc2, oa2, oc2, rfl, hn2, hcc2, hst2, hfr2⟩
      have hst : ∀ b (o : Obj), w.heap.size ≤ b → wr.heap[b]? = some o → NotOut o → E2.heap[b]? = some o := fun b o hb ho hno =>
        hfr2.still b o (mem_keep ho HD0.out) hno (fun k hk e => by have := HYS.out k (by rw [← HLEN.out]; exact hk) b e; omega)
      have HE1 := Lib.hid (hst _ _ (Nat.le_refl _) HX1'.out (by show 50 ≠ 80; decide))
      have HE2 := Lib.hid (hst _ _ (by have := HL.out; omega) HX2'.out (by show 45 ≠ 80; decide))
      have HE3 := Lib.hid (hst _ _ (by have := HL.out; omega) HX3'.out (by show 45 ≠ 80; decide))
      have hfe : FrR B cs.length y w E2 := (HFR.out.trans (FrR.ofB HD0.out HBw.out)).trans (by rw [← HLEN.out]; exact hfr2)
      have HFE := Lib.hid hfe
      have HN2 := Lib.hid (hn2.trans HN1.out)
      have HCC2 := Lib.hid hcc2
      have HS2 := Lib.hid hst2
      have HZ2 : Hid (W3.heap.size ≤ E2.heap.size) := Nat.le_trans HSZ.out (Nat.le_trans HD0.out.size hfr2.low.size)
      clear hst hn2 hcc2 hst2 hfr2 hfe
      refine hK.out _ _ (⟨HFE.out.low, HE1.out, HE2.out⟩) (fun hHeld => ?_)
      clear hK K
      rename_i hOld
      clear hOld
      (try simp only [Act.put, pA, pB, pC, pD, pE, pF])
      obtain ⟨R0, hR0⟩ : ∃ R, set7 E2 W1.heap.size (.slice ca2 cs2.length cc2) (.slice ia inp.length ic) (.slice oa2 s2.out.length oc2) (.int .i64 (s2.rd : Int)) (.int .i64 (s2.st : Int)) (.int .i64 F) (.int .i64 er2) = R := ⟨_, rfl⟩
      have HR2 : Hid (R0.heap[W1.heap.size]? = some (envObj ca2 cs2.length cc2 ia inp.length ic oa2 s2.out.length oc2 (s2.rd : Int) (s2.st : Int) F er2)) := by show _ = _; rw [← hR0]; exact set7_at _ _ _ _ _ _ _ HE2.out
      have HFAR0 : Hid (∀ b, b ≠ W1.heap.size → R0.heap[b]? = E2.heap[b]?) := fun b hb => by rw [← hR0]; exact set7_far hb
      have HLOW0 : Hid (Below B w R0) := by show Below _ _ _; rw [← hR0]; exact set7_below HFE.out.low (by have := HBB.out; have := HL.out; omega)
      have HLOW1 : Hid (Below B E2 R0) := by show Below _ _ _; rw [← hR0]; exact set7_below (Below.refl _ _) (by have := HBB.out; have := HL.out; omega)
      obtain ⟨y0, y1, y2, y3, y4, y5, y6⟩ := env_cells HE2.out
      obtain ⟨q0, q1, q2, q3, q4, q5, q6⟩ := env_free HE2.out
      unfold set7 at hR0
      refine wpAnyZ_ready (rs := [7]) (by kernel_rfl) (by simp) (AllReadyZ.last rfl (by decide) (fun K hK => ?_) AllReadyZ.nil)
      go_simp
      refine hK.out _ _ ?_
      clear hK K
      (try simp only [Act.put, pA, pB, pC, pD, pE, pF])
      try rw [hR0]
      clear y0 y1 y2 y3 y4 y5 y6 q0 q1 q2 q3 q4 q5 q6 hHeld hR0
      refine wpAnyZ_done (by kernel_rfl) ?_ _
      have HR1 := Lib.hid ((HFAR0.out _ (by have := HL.out; omega)).trans HE1.out)
      have HR3 := Lib.hid ((HFAR0.out _ (by have := HL.out; omega)).trans HE3.out)
      have HSR := Lib.hid (HS2.out.off HE2.out HFAR0.out HLOW1.out)
      have HF2 := Lib.hid (HFE.out.far (by have := HL.out; omega) HLOW0.out HFAR0.out)
      have HZ3 : Hid (W3.heap.size ≤ R0.heap.size) := Nat.le_trans HZ2.out HLOW1.out.size
      go_wp2_with fail
      go_roundw
      case rel => exact ⟨j + 1, s2, er2, cs2, ca2, cc2, oa2, oc2, by omega, by go_num, HNX.out, HN2.out, HCC2.out, HSR.out, HR2.out, HR1.out, HR3.out, HF2.out, HZ3.out⟩
      case measure => simp [intOf]; omega
    · have HSQ : Hid (seqTo (kidX F inp t) t.len s = (s1, er)) := by
        show _ = _
        by_cases hlt : j < t.len
        · exact seqTo_er HSEQ.out (fun h => hgo ⟨hlt, h⟩) (by omega)
        · rw [show t.len = j by omega]; exact HSEQ.out
      have hq : (¬ (j : Int) < (t.len : Int)) ∨ ((j : Int) < (t.len : Int) ∧ (er == 0) = false) := by
        by_cases hlt : j < t.len
        · exact .inr ⟨by omega, by simpa using fun h => hgo ⟨hlt, h⟩⟩
        · exact .inl (by omega)
      obtain ⟨y0, y1, y2, y3, y4, y5, y6⟩ := env_cells HX3'.out
      obtain ⟨q0, q1, q2, q3, q4, q5, q6⟩ := env_free HX3'.out
      obtain ⟨R, hR⟩ : ∃ R, set7 wr W2.heap.size (.slice ca1 cs1.length cc1) (.slice ia inp.length ic) (.slice oa1 s1.out.length oc1) (.int .i64 (s1.rd : Int)) (.int .i64 (s1.st : Int)) (.int .i64 F) (.int .i64 er) = R := ⟨_, rfl⟩
      have hfar : ∀ b, b ≠ W2.heap.size → R.heap[b]? = wr.heap[b]? := fun b hb => by rw [← hR]; exact set7_far hb
      have hlow : Below B w R := by rw [← hR]; exact set7_below HFR.out.low (by have := HBB.out; have := HL.out; omega)
      have hlow1 : Below B wr R := by rw [← hR]; exact set7_below (Below.refl _ _) (by have := HBB.out; have := HL.out; omega)
      have HXE : Hid (R.heap[W2.heap.size]? = some (envObj ca1 cs1.length cc1 ia inp.length ic oa1 s1.out.length oc1 (s1.rd : Int) (s1.st : Int) F er)) := by show _ = _; rw [← hR]; exact set7_at _ _ _ _ _ _ _ HX3'.out
      have HSR := Lib.hid (HST1.out.off HX3'.out hfar hlow1)
      have HFF := Lib.hid (HFR.out.far (by have := HL.out; omega) hlow hfar)
      unfold set7 at hR
      clear hgo hfar hlow hlow1
      rcases hq with g1 | ⟨g1, g2⟩
      all_goals
        go_wp2_with fail
        try rw [hR]
        clear x0 x1 x2 x3 e0 e1 e2 e3 e4 e5 e6 y0 y1 y2 y3 y4 y5 y6 q0 q1 q2 q3 q4 q5 q6
        obtain ⟨z0, z1, z2, z3, z4, z5, z6⟩ := env_cells HXE.out
        refine bodyPost_ret (v := envVal ca1 cs1.length cc1 ia inp.length ic oa1 s1.out.length oc1 (s1.rd : Int) (s1.st : Int) F er) (by simp [results, Tryd.results41, go_sem, z0, z1, z2, z3, z4, z5, z6]) rfl ?_
        rw [HSQ.out]
        exact ⟨cs1, ca1, cc1, oa1, oc1, rfl, HN1.out.trans HNN.out.symm, HCC1.out, HSR.out, HFF.out⟩
end Go.Proofs.YtgochgcchkdlmaaDoor

/-
  A cell more in memory: a loop's variable (package ontimeref16); and one less.
-/
namespace Go.Proofs.YtgochgcchkdlmaaDoor
set_option linter.unusedVariables false
set_option linter.unusedSimpArgs false
open Go.RowKit Go.Maps

/-- the cells of a row of cells -/
def cwF (cs : List Cel) (y : Nat → Value) (j : Nat) : Value :=
  if j % 3 = 0 then .string ((cs[j / 3]?.map (·.name)).getD ByteArray.empty) else if j % 3 = 1 then .bool ((cs[j / 3]?.map (·.arr)).getD false) else y (j / 3)
def cwL (cs : List Cel) (y : Nat → Value) : List Value := (List.range (cs.length * 3)).map (cwF cs y)
theorem cwL_len (cs : List Cel) (y : Nat → Value) : (cwL cs y).length = cs.length * 3 := by unfold cwL; simp
theorem cwL_get {cs : List Cel} {y : Nat → Value} {k : Nat} {c : Cel} (hk : cs[k]? = some c) : (cwL cs y)[k * 3]? = some (.string c.name) ∧ (cwL cs y)[k * 3 + 1]? = some (.bool c.arr) ∧ (cwL cs y)[k * 3 + 2]? = some (y k) := by
  have hl := (List.getElem?_eq_some_iff.1 hk).1
  have key : ∀ j, j < cs.length * 3 → (cwL cs y)[j]? = some (cwF cs y j) := fun j hj => by
    unfold cwL; rw [List.getElem?_map, List.getElem?_range hj]; rfl
  refine ⟨?_, ?_, ?_⟩
  · rw [key _ (by omega)]; unfold cwF; rw [if_pos (by omega), show k * 3 / 3 = k by omega, hk]; rfl
  · rw [key _ (by omega)]; unfold cwF; rw [if_neg (by omega), if_pos (by omega), show (k * 3 + 1) / 3 = k by omega, hk]; rfl
  · rw [key _ (by omega)]; unfold cwF; rw [if_neg (by omega), if_neg (by omega), show (k * 3 + 2) / 3 = k by omega]
theorem addr_add (b o j : Nat) : (⟨b, o, none⟩ : Addr).add j = ⟨b, o + j, none⟩ := by
  unfold Addr.add
  by_cases h0 : j = 0 <;> simp [h0]
section
variable {B : Nat} {w w' : World} {ca : Option Addr} {cs : List Cel} {y : Nat → Value}
theorem CelsOwn.src (h : CelsOwn B w ca cs y) : Src w ca cs.length 3 (cwL cs y) := by
  refine ⟨cwL_len _ _, ?_⟩
  by_cases h0 : cs.length = 0
  · exact .inl h0
  · obtain ⟨b, off, e, _⟩ := h.row 0 _ (List.getElem?_eq_getElem (by omega))
    refine .inr ⟨_, e, fun j u hu => ?_⟩
    have hj : j < cs.length * 3 := by rw [← cwL_len cs y]; exact (List.getElem?_eq_some_iff.1 hu).1
    have hk : j / 3 < cs.length := by omega
    have hc := List.getElem?_eq_getElem hk
    obtain ⟨b', off', e', c0, c1, c2⟩ := h.row (j / 3) _ hc
    rw [e] at e'
    cases e'
    obtain ⟨g0, g1, g2⟩ := cwL_get (y := y) hc
    rw [addr_add]
    have hr : j = j / 3 * 3 ∨ j = j / 3 * 3 + 1 ∨ j = j / 3 * 3 + 2 := by omega
    rcases hr with hr | hr | hr
    · rw [← hr, hu] at g0; cases g0
      rw [← hr] at c0; exact c0
    · rw [← hr, hu] at g1; cases g1
      rw [Nat.add_assoc, ← hr] at c1; exact c1
    · rw [← hr, hu] at g2; cases g2
      rw [Nat.add_assoc, ← hr] at c2; exact c2
/-- a cell of a loop's variable behind the others -/
def y1 (n : Nat) (y : Nat → Value) (v : Value) (k : Nat) : Value := if k = n then v else y k
theorem y1_at (n : Nat) (y : Nat → Value) (v : Value) : y1 n y v n = v := if_pos rfl
theorem y1_lt {n k : Nat} (h : k < n) (y : Nat → Value) (v : Value) : y1 n y v k = y k := if_neg (by omega)
theorem CelsOwn.grow (h : CelsOwn B w ca cs y) (hb : Below w.heap.size w w') {nm : ByteArray} {i : Int} {g cap lb : Nat} (hrow : w'.ownsRow B 54 3 (.slice (some ⟨g, 0, none⟩) (cs.length + 1) cap) (cs.length + 1) (cwL cs y ++ [.string nm, .bool false, .slice (some ⟨lb, 0, none⟩) 1 1]))
    (hword : w'.ownsRow B 21 1 (.slice (some ⟨lb, 0, none⟩) 1 1) 1 [.int .i32 i]) (hlb : w.heap.size ≤ lb) (hlen : cs.length < 1000000) (hi : Wd.W i) (hnm : nm.size ≤ 9223372036854775807) :
    CelsOwn B w' (some ⟨g, 0, none⟩) (cs ++ [⟨nm, false, [i]⟩]) (y1 cs.length y (.slice (some ⟨lb, 0, none⟩) 1 1)) := by
  have h2 := h.below hb
  have hsp : ∀ (k : Nat) (c : Cel), (cs ++ [⟨nm, false, [i]⟩])[k]? = some c → (k < cs.length ∧ cs[k]? = some c) ∨ (k = cs.length ∧ c = ⟨nm, false, [i]⟩) := fun k c hk => by
    by_cases hl : k < cs.length
    · rw [List.getElem?_append_left hl] at hk; exact .inl ⟨hl, hk⟩
    · rw [List.getElem?_append_right (by omega)] at hk
      have := (List.getElem?_eq_some_iff.1 hk).1
      have e : k - cs.length = 0 := by simp at this; omega
      rw [e] at hk
      exact .inr ⟨by omega, (Option.some.inj hk).symm⟩
  refine ⟨by simp; omega, fun k c hk => ⟨g, 0, rfl, ?_⟩, fun b off e => ?_, fun k c hk => ?_, fun k c hk => ?_, fun k k' b h1 h1' e e' => ?_⟩
  · rw [Nat.zero_add]
    rcases hsp k c hk with ⟨hl, hk⟩ | ⟨rfl, rfl⟩
    · obtain ⟨g0, g1, g2⟩ := cwL_get (y := y) hk
      have hll := cwL_len cs y
      rw [y1_lt hl]
      exact ⟨own_get hrow (by rw [List.getElem?_append_left (by omega)]; exact g0), own_get hrow (by rw [List.getElem?_append_left (by omega)]; exact g1), own_get hrow (by rw [List.getElem?_append_left (by omega)]; exact g2)⟩
    · have hll := cwL_len cs y
      rw [y1_at]
      refine ⟨own_get hrow ?_, own_get hrow ?_, own_get hrow ?_⟩
      · rw [List.getElem?_append_right (by omega), hll, Nat.sub_self]; rfl
      · rw [List.getElem?_append_right (by omega), hll, show cs.length * 3 + 1 - cs.length * 3 = 1 by omega]; rfl
      · rw [List.getElem?_append_right (by omega), hll, show cs.length * 3 + 2 - cs.length * 3 = 2 by omega]; rfl
  · cases e
    obtain ⟨_, cur, hcur⟩ := row16_obj hrow
    exact .inr ⟨cur, hcur⟩
  · rcases hsp k c hk with ⟨hl, hk⟩ | ⟨rfl, rfl⟩
    · rw [y1_lt hl]; exact h2.own k c hk
    · rw [y1_at]; exact hword
  · rcases hsp k c hk with ⟨hl, hk⟩ | ⟨rfl, rfl⟩
    · exact h2.fit k c hk
    · refine ⟨by simp, fun x hx => ?_, hnm, fun _ => rfl⟩
      have : x = i := by simpa using hx
      rw [this]; exact hi
  · simp only [List.length_append, List.length_cons, List.length_nil] at h1 h1'
    have hold : ∀ {k b : Nat}, k < cs.length → (y k).ownBlock = some b → b < w.heap.size := fun {k b} hk hb => (own_lt (h.own k _ (List.getElem?_eq_getElem hk)) hb).2
    by_cases hk : k < cs.length
    · rw [y1_lt hk] at e
      by_cases hk' : k' < cs.length
      · rw [y1_lt hk'] at e'; exact h.apart k k' b hk hk' e e'
      · have : k' = cs.length := by omega
        subst this
        rw [y1_at] at e'
        have : lb = b := Option.some.inj e'
        have := hold hk e
        omega
    · have : k = cs.length := by omega
      subst this
      rw [y1_at] at e
      have : lb = b := Option.some.inj e
      by_cases hk' : k' < cs.length
      · rw [y1_lt hk'] at e'
        have := hold hk' e'
        omega
      · omega
theorem CelsOwn.drop {c : Cel} {v : Value} (h : CelsOwn B w ca (cs ++ [c]) (y1 cs.length y v)) : CelsOwn B w ca cs y := by
  have hup : ∀ (k : Nat) (d : Cel), cs[k]? = some d → k < cs.length ∧ (cs ++ [c])[k]? = some d := fun k d hk => by
    have hl := (List.getElem?_eq_some_iff.1 hk).1
    exact ⟨hl, by rw [List.getElem?_append_left hl]; exact hk⟩
  refine ⟨by have := h.len; simp at this; omega, fun k d hk => ?_, fun b off e => ?_, fun k d hk => ?_, fun k d hk => h.fit k d (hup k d hk).2, fun k k' b h1 h2 e e' => ?_⟩
  · obtain ⟨h1, h2⟩ := hup k d hk
    have h3 := h.row k d h2
    rw [y1_lt h1] at h3; exact h3
  · rcases h.ty b off e with h0 | h0
    · simp at h0
    · exact .inr h0
  · obtain ⟨h1, h2⟩ := hup k d hk
    have h3 := h.own k d h2
    rw [y1_lt h1] at h3; exact h3
  · refine h.apart k k' b (by simp; omega) (by simp; omega) ?_ ?_
    · rw [y1_lt h1]; exact e
    · rw [y1_lt h2]; exact e'
end
/-- the names say what the last cell is -/
theorem celN_split {cs2 : List Cel} {N : List (ByteArray × Bool)} {nm : ByteArray} {ar : Bool} (h : celN cs2 = N ++ [(nm, ar)]) : ∃ cs c, cs2 = cs ++ [c] ∧ celN cs = N ∧ c.name = nm ∧ c.arr = ar := by
  have hne : cs2 ≠ [] := by rintro rfl; simp [celN] at h
  obtain ⟨cs, c, rfl⟩ : ∃ cs c, cs2 = cs ++ [c] := ⟨cs2.dropLast, cs2.getLast hne, (List.dropLast_concat_getLast hne).symm⟩
  unfold celN at h
  rw [List.map_append] at h
  obtain ⟨h1, h2⟩ := List.append_inj' h rfl
  have h2 : (c.name, c.arr) = (nm, ar) := by simpa using h2
  injection h2 with e1 e2
  exact ⟨cs, c, rfl, h1, e1, e2⟩
theorem FrR.add {B n lb : Nat} {y : Nat → Value} {v : Value} {w w1 w2 : World} (h : FrR B n y w w1) (h2 : FrR B (n + 1) (y1 n y v) w1 w2) (hl : ∀ b, v.ownBlock = some b → b = lb) (hlb : w.heap.size ≤ lb) : FrR B n y w w2 :=
  ⟨h.low.trans h2.low, fun b o ho hn hk => h2.still b o (h.still b o ho hn hk) hn (fun k hkn e => by
    by_cases e1 : k = n
    · subst e1
      rw [y1_at] at e
      have := hl b e
      have := mem_lt ho
      omega
    · rw [y1_lt (by omega)] at e
      exact hk k (by omega) e)⟩
end Go.Proofs.YtgochgcchkdlmaaDoor

/-
  Names that are declared (package ontimeref16), plainly: what a body without faults stores to has a cell. No program is named here.
-/
namespace Go.Proofs.YtgochgcchkdlmaaDoor
set_option linter.unusedVariables false
set_option linter.unusedSimpArgs false
open Go.RowKit

/-- the names of the cells are those that surround a node -/
def NmR (d : Nms) (loops : List ByteArray) (N : List (ByteArray × Bool)) : Prop :=
  (∀ nm, (nm, false) ∈ N ↔ (memB d.scalars nm || memB loops nm) = true) ∧ (∀ nm, (nm, true) ∈ N ↔ (memB d.arrays nm || memB d.shared nm) = true)
theorem NmR.loop {d : Nms} {loops : List ByteArray} {N : List (ByteArray × Bool)} (h : NmR d loops N) (nm : ByteArray) : NmR d (loops ++ [nm]) (N ++ [(nm, false)]) := by
  refine ⟨fun x => ?_, fun x => ?_⟩
  · rw [List.mem_append, h.1 x, memB_append]
    have e : (memB [nm] x = true) ↔ x = nm := by unfold memB; simp [eq_comm]
    simp only [Bool.or_eq_true, List.mem_singleton, Prod.mk.injEq, and_true, e, or_assoc]
  · rw [List.mem_append, h.2 x]
    simp
/-- the names that a statement needs are there -/
def Dec (N : List (ByteArray × Bool)) : Tree → Prop
  | .node k _ s l kid => (k = 40 ∨ k = 44 → ∀ h : 0 < l, ((kid ⟨0, h⟩).kind = 2 → ((kid ⟨0, h⟩).name, false) ∈ N) ∧ ((kid ⟨0, h⟩).kind = 3 → ((kid ⟨0, h⟩).name, true) ∈ N)) ∧ (k = 42 → (s, false) ∉ N) ∧
    ∀ i : Fin l, Dec (if k = 42 then N ++ [(s, false)] else N) (kid i)
theorem Dec_eq {N : List (ByteArray × Bool)} (t : Tree) (h0 : t.kind = 40 ∨ t.kind = 44 → 0 < t.len) : Dec N t ↔ (t.kind = 40 ∨ t.kind = 44 → ((t.kid 0).kind = 2 → ((t.kid 0).name, false) ∈ N) ∧ ((t.kid 0).kind = 3 → ((t.kid 0).name, true) ∈ N)) ∧ (t.kind = 42 → (t.name, false) ∉ N) ∧
    ∀ i, i < t.len → Dec (if t.kind = 42 then N ++ [(t.name, false)] else N) (t.kid i) := by
  cases t with
  | node k n s l kid =>
    rw [Dec]
    refine and_congr ⟨fun h hk => ?_, fun h hk h1 => ?_⟩ (and_congr Iff.rfl ⟨fun h i hi => ?_, fun h i => ?_⟩)
    · have h1 : 0 < l := h0 hk
      rw [Tree.kid_node h1]; exact h hk h1
    · have h2 := h hk
      rw [Tree.kid_node h1] at h2; exact h2
    · have hi' : i < l := hi
      rw [Tree.kid_node hi']; exact h ⟨i, hi'⟩
    · have h1 := h i.1 i.2
      rwa [Tree.kid_node i.2] at h1
theorem dec_of {d : Nms} : ∀ (t : Tree) (path : List Int) (place : Bool) (loops locks : List ByteArray) (N : List (ByteArray × Bool)), faultsT d t path place loops locks = [] → NmR d loops N → Dec N t := by
  intro t
  induction t using Tree.ind with
  | h t ih =>
    intro path place loops locks N hf hN
    obtain ⟨f1, f2⟩ := faults_parts hf
    cases t with
    | node k n s l kid =>
      rw [Dec]
      refine ⟨fun hk h1 => ?_, fun hk hx => ?_, fun i => ?_⟩
      · have h3 := (faults_parts (f2 0 h1)).1
        have hp : placeIn (.node k n s l kid) 0 = true := by
          unfold placeIn
          have hk' : (Tree.node k n s l kid).kind = 40 ∨ (Tree.node k n s l kid).kind = 44 := hk
          rcases hk' with hk' | hk' <;> rw [hk'] <;> rfl
        have hl : loopsIn (.node k n s l kid) loops = loops := if_neg (by show ¬ k = 42; omega)
        rw [hp, hl, Tree.kid_node h1] at h3
        refine ⟨fun h2 => (hN.1 _).2 ?_, fun h2 => (hN.2 _).2 ?_⟩
        · rw [h2] at h3
          unfold faultN at h3
          rw [if_pos rfl, Bool.true_and] at h3
          by_cases e1 : memB loops (kid ⟨0, h1⟩).name = true
          · rw [if_pos e1] at h3; exact absurd h3 (by decide)
          · rw [if_neg e1] at h3
            by_cases e2 : (memB d.scalars (kid ⟨0, h1⟩).name || memB loops (kid ⟨0, h1⟩).name) = true
            · exact e2
            · rw [if_neg e2] at h3
              split at h3 <;> exact absurd h3 (by decide)
        · rw [h2] at h3
          unfold faultN at h3
          rw [if_neg (by decide), if_pos rfl] at h3
          by_cases e1 : memB d.arrays (kid ⟨0, h1⟩).name = true
          · rw [e1]; rfl
          · rw [if_neg e1] at h3
            by_cases e2 : memB d.shared (kid ⟨0, h1⟩).name = true
            · rw [e2, Bool.or_true]
            · rw [if_neg e2] at h3
              split at h3 <;> exact absurd h3 (by decide)
      · have f1' : faultN d k s place loops locks = 0 := f1
        have hx' := (hN.1 s).1 hx
        unfold faultN at f1'
        rw [if_neg (by omega), if_neg (by omega), if_pos hk, hx', Bool.true_or, if_pos rfl] at f1'
        exact absurd f1' (by decide)
      · have h5 := f2 i.1 i.2
        have h6 := ih i.1 i.2
        rw [Tree.kid_node i.2] at h5 h6
        by_cases h42 : k = 42
        · rw [if_pos h42]
          have hl : loopsIn (.node k n s l kid) loops = loops ++ [s] := if_pos h42
          rw [hl] at h5
          exact h6 _ _ _ _ _ h5 (hN.loop s)
        · rw [if_neg h42]
          have hl : loopsIn (.node k n s l kid) loops = loops := if_neg h42
          rw [hl] at h5
          exact h6 _ _ _ _ _ h5 hN
end Go.Proofs.YtgochgcchkdlmaaDoor

/-
  The three boxes of a function of the reference that executes (package ontimeref16): the node's, the state's, the result's.
-/
namespace Go.Proofs.YtgochgcchkdlmaaDoor
set_option linter.unusedVariables false
set_option linter.unusedSimpArgs false
open Go.RowKit Go.Maps
set_option maxRecDepth 100000
set_option maxHeartbeats 80000000

/-- the boxes b1 (node), b2 (state), b3 (result) of a call that began at w -/
structure Fx (B n b1 b2 b3 : Nat) (y : Nat → Value) (w : World) (t : Tree) (a : Option Addr) (c : Nat) (ev : Array Value) (W : World) : Prop where
  x1 : W.heap[b1]? = some (ndObj t a c)
  x2 : W.heap[b2]? = some (.cells ev 45)
  x3 : W.heap[b3]? = some (envObj none 0 0 none 0 0 none 0 0 0 0 0 0)
  fr : FrR B n y w W
  lt : B ≤ w.heap.size ∧ w.heap.size ≤ b1 ∧ w.heap.size ≤ b2 ∧ w.heap.size ≤ b3 ∧ b1 ≠ b2 ∧ b1 ≠ b3 ∧ b2 ≠ b3
  ys : ∀ k, k < n → ∀ b, (y k).ownBlock = some b → b < w.heap.size
section
variable {B n b1 b2 b3 : Nat} {y : Nat → Value} {w W W' : World} {t : Tree} {a : Option Addr} {c : Nat} {ev : Array Value} {F er : Int} {inp : List Int} {s : St} {cs : List Cel} {ca ia oa : Option Addr} {oc : Nat}
theorem Fx.big (h : Fx B n b1 b2 b3 y w t a c ev W) : B ≤ W.heap.size := by
  have := mem_lt h.x1
  have := h.lt
  omega
theorem Fx.keep (h : Fx B n b1 b2 b3 y w t a c ev W) (hb : Below W.heap.size W W') : Fx B n b1 b2 b3 y w t a c ev W' :=
  ⟨mem_keep h.x1 hb, mem_keep h.x2 hb, mem_keep h.x3 hb, h.fr.trans (FrR.ofB hb h.big), h.lt, h.ys⟩
theorem Fx.call (h : Fx B n b1 b2 b3 y w t a c ev W) (hf : FrR B n y W W') : Fx B n b1 b2 b3 y w t a c ev W' := by
  have hst : ∀ b (o : Obj), w.heap.size ≤ b → W.heap[b]? = some o → NotOut o → W'.heap[b]? = some o := fun b o hb ho hno =>
    hf.still b o ho hno (fun k hk e => by have := h.ys k hk b e; omega)
  have := h.lt
  exact ⟨hst _ _ (by omega) h.x1 (by show 50 ≠ 80; decide), hst _ _ (by omega) h.x2 (by show 45 ≠ 80; decide), hst _ _ (by omega) h.x3 (by show 45 ≠ 80; decide), h.fr.trans hf, h.lt, h.ys⟩
theorem Fx.call1 {v : Value} {lb : Nat} (h : Fx B n b1 b2 b3 y w t a c ev W) (hf : FrR B (n + 1) (y1 n y v) W W') (hl : ∀ b, v.ownBlock = some b → b = lb) (hlb : b1 < lb ∧ b2 < lb ∧ b3 < lb) : Fx B n b1 b2 b3 y w t a c ev W' := by
  have hlt := h.lt
  have hst : ∀ b (o : Obj), w.heap.size ≤ b → b < lb → W.heap[b]? = some o → NotOut o → W'.heap[b]? = some o := fun b o hb hb3 ho hno =>
    hf.still b o ho hno (fun k hk e => by
      by_cases e1 : k = n
      · subst e1
        rw [y1_at] at e
        have := hl b e
        omega
      · rw [y1_lt (by omega)] at e
        have := h.ys k (by omega) b e; omega)
  exact ⟨hst _ _ (by omega) (by omega) h.x1 (by show 50 ≠ 80; decide), hst _ _ (by omega) (by omega) h.x2 (by show 45 ≠ 80; decide), hst _ _ (by omega) (by omega) h.x3 (by show 45 ≠ 80; decide), h.fr.add hf hl (by omega), h.lt, h.ys⟩
theorem Fx.lts (h : Fx B n b1 b2 b3 y w t a c ev W) : b1 < W.heap.size ∧ b2 < W.heap.size ∧ b3 < W.heap.size := ⟨mem_lt h.x1, mem_lt h.x2, mem_lt h.x3⟩
/-- another box for the state -/
theorem Fx.box (h : Fx B n b1 b2 b3 y w t a c ev W) : Fx B n b1 W.heap.size b3 y w t a c #[.slice none 0 0, .slice none 0 0, .slice none 0 0, .int .i64 0, .int .i64 0, .int .i64 0, .int .i64 0] (W.alloc (envObj none 0 0 none 0 0 none 0 0 0 0 0 0)) := by
  have h1 := h.keep (mem_alloc W (envObj none 0 0 none 0 0 none 0 0 0 0 0 0))
  have h2 := h.lts
  have h3 := h.lt
  exact ⟨h1.x1, mem_new _ _, h1.x3, h1.fr, by omega, h1.ys⟩
theorem Fx.set {c0 c1 c2 c3 c4 c5 c6 : Value} (h : Fx B n b1 b2 b3 y w t a c #[c0, c1, c2, c3, c4, c5, c6] W) (x0 x1 x2 x3 x4 x5 x6 : Value) : Fx B n b1 b2 b3 y w t a c #[x0, x1, x2, x3, x4, x5, x6] (set7 W b2 x0 x1 x2 x3 x4 x5 x6) := by
  have := h.lt
  exact ⟨(set7_far (by omega)).trans h.x1, set7_at _ _ _ _ _ _ _ h.x2, (set7_far (by omega)).trans h.x3, h.fr.far (q := b2) (by omega) (set7_below h.fr.low (by omega)) (fun b hb => set7_far hb), h.lt, h.ys⟩
theorem Fx.set1 (h : Fx B n b1 b2 b3 y w t a c ev W) (i : Nat) (v : Value) : Fx B n b1 b2 b3 y w t a c (ev.setIfInBounds i v) (W.setCell ⟨b2, i, none⟩ v) := by
  have := h.lt
  have hf : ∀ b, b ≠ b2 → (W.setCell ⟨b2, i, none⟩ v).heap[b]? = W.heap[b]? := fun b hb => Below.heap_setCell _ _ _ _ hb
  exact ⟨(hf _ (by omega)).trans h.x1, mem_set h.x2, (hf _ (by omega)).trans h.x3, h.fr.far (q := b2) (by omega) (h.fr.low.setCell (p := ⟨b2, i, none⟩) (by show B ≤ b2; omega) _) hf, h.lt, h.ys⟩
theorem RSt.fset {z : Nat → Value} (hr : RSt B F inp W s er cs z ca ia oa oc) (h : Fx B n b1 b2 b3 y w t a c ev W) (x0 x1 x2 x3 x4 x5 x6 : Value) : RSt B F inp (set7 W b2 x0 x1 x2 x3 x4 x5 x6) s er cs z ca ia oa oc := by
  have := h.lt
  exact hr.off h.x2 (fun b hb => set7_far hb) (set7_below (Below.refl _ _) (by omega))
theorem RSt.fset1 {z : Nat → Value} (hr : RSt B F inp W s er cs z ca ia oa oc) (h : Fx B n b1 b2 b3 y w t a c ev W) (i : Nat) (v : Value) : RSt B F inp (W.setCell ⟨b2, i, none⟩ v) s er cs z ca ia oa oc := by
  have := h.lt
  exact hr.off h.x2 (fun b hb => Below.heap_setCell _ _ _ _ hb) ((Below.refl _ _).setCell (p := ⟨b2, i, none⟩) (by show B ≤ b2; omega) _)
theorem RSt.fout {z : Nat → Value} (hr : RSt B F inp W s er cs z ca ia oa oc) (h : Fx B n b1 b2 b3 y w t a c ev W) (x0 x1 x2 x3 x4 x5 x6 : Value) : RSt B F inp (set7 W b3 x0 x1 x2 x3 x4 x5 x6) s er cs z ca ia oa oc := by
  have := h.lt
  exact hr.off h.x3 (fun b hb => set7_far hb) (set7_below (Below.refl _ _) (by omega))
theorem Fx.fout (h : Fx B n b1 b2 b3 y w t a c ev W) (x0 x1 x2 x3 x4 x5 x6 : Value) : FrR B n y w (set7 W b3 x0 x1 x2 x3 x4 x5 x6) ∧ (set7 W b3 x0 x1 x2 x3 x4 x5 x6).heap[b3]? = some (.cells #[x0, x1, x2, x3, x4, x5, x6] 45) := by
  have := h.lt
  exact ⟨h.fr.far (q := b3) (by omega) (set7_below h.fr.low (by omega)) (fun b hb => set7_far hb), set7_at _ _ _ _ _ _ _ h.x3⟩
theorem RSt.err (h : RSt B F inp W s 0 cs y ca ia oa oc) (e : Int) : RSt B F inp W s e cs y ca ia oa oc := ⟨h.own, fun _ => h.V rfl, h.A, h.out, h.inr, h.inl, h.fitI, h.stF, h.cnt⟩
theorem RSt.step (h : RSt B F inp W s 0 cs y ca ia oa oc) (hlt : (s.st : Int) < F) : RSt B F inp W { s with st := s.st + 1 } 0 cs y ca ia oa oc :=
  ⟨h.own, h.V, h.A, h.out, h.inr, h.inl, h.fitI, by show s.st + 1 ≤ _; omega, by have := h.cnt; exact ⟨by show s.rd ≤ s.st + 1; omega, by show s.out.length ≤ s.st + 1; omega⟩⟩
theorem RSt.ys (h : RSt B F inp W s er cs y ca ia oa oc) : ∀ k, k < cs.length → ∀ b, (y k).ownBlock = some b → b < W.heap.size := fun k hk b hb => (own_lt (h.own.own k _ (List.getElem?_eq_getElem hk)) hb).2
/-- the boxes are made -/
theorem Fx.start (hB : B ≤ w.heap.size) (hr : RSt B F inp w s er cs y ca ia oa oc) (t : Tree) (a : Option Addr) (c : Nat) (ev : Array Value) {W1 W2 W3 : World} (h1 : w.alloc (ndObj t a c) = W1) (h2 : W1.alloc (.cells ev 45) = W2) (h3 : W2.alloc (envObj none 0 0 none 0 0 none 0 0 0 0 0 0) = W3) :
    Fx B cs.length w.heap.size W1.heap.size W2.heap.size y w t a c ev W3 ∧ RSt B F inp W3 s er cs y ca ia oa oc ∧ Below w.heap.size w W3 := by
  have b1 : Below w.heap.size w W1 := by rw [← h1]; exact mem_alloc _ _
  have b2 : Below W1.heap.size W1 W2 := by rw [← h2]; exact mem_alloc _ _
  have b3 : Below W2.heap.size W2 W3 := by rw [← h3]; exact mem_alloc _ _
  have hb := mem_then b1 (mem_then b2 b3)
  refine ⟨⟨mem_keep (by rw [← h1]; exact mem_new _ _) (mem_then b2 b3), mem_keep (by rw [← h2]; exact mem_new _ _) b3, by rw [← h3]; exact mem_new _ _, FrR.ofB hb hB, ?_, hr.ys⟩, hr.below hb hB, hb⟩
  have g1 : w.heap.size < W1.heap.size := by rw [← h1]; simp
  have g2 : W1.heap.size < W2.heap.size := by rw [← h2]; simp
  omega
/-- what a block or statement does, at a world within the call -/
theorem SOk.at_ {N : List (ByteArray × Bool)} {f : FuncId} {u : Tree} {x : St → SR} {ic cc : Nat} {z : Nat → Value} (hk : SOk B F inp ia ic N z f u x) (h : Fx B n b1 b2 b3 y w t a c ev W) (hr : RSt B F inp W s 0 cs z ca ia oa oc) (hN : celN cs = N) (hcc : cs.length ≤ cc) {ai : Option Addr} {ci : Nat} (hi : InB B w u ai) :
    ∀ V, Below W.heap.size W V → Calls Tryd.prog f #[u.val ai ci, envVal ca cs.length cc ia inp.length ic oa s.out.length oc (s.rd : Int) (s.st : Int) F 0] V (RQ B F inp cs z ia ic V (x s)) := fun V hV =>
  hk V s cs ca cc oa oc ai ci hN hcc (Nat.le_trans h.big hV.size) (hi.low (h.fr.low.trans (hV.mono h.big))) (hr.below hV h.big)
theorem CelsOwn.one (h : CelsOwn B W ca cs y) : (∀ c ∈ cs, c.arr = false → c.l.length = 1) ∧ ∀ c ∈ cs, c.l.length ≤ 1000000 := by
  refine ⟨fun c hc => ?_, fun c hc => ?_⟩
  · obtain ⟨k, hk⟩ := List.getElem?_of_mem hc
    exact (h.fit k c hk).2.2.2
  · obtain ⟨k, hk⟩ := List.getElem?_of_mem hc
    exact (h.fit k c hk).1
/-- what an expression's value is, at a world within the call -/
theorem refE_at {u : Tree} {cc : Nat} (hv : u.vld 101 = true) (h : Fx B n b1 b2 b3 y w t a c ev W) (hr : RSt B F inp W s 0 cs y ca ia oa oc) {ai : Option Addr} {ci : Nat} (hi : InB B w u ai) :
    ∀ V, Below W.heap.size W V → Calls Tryd.prog 30 #[u.val ai ci, .slice ca cs.length cc] V (RefEQ (u.ev s.V s.A) V) := fun V hV => by
  rw [hr.V rfl, hr.A]
  exact refE_any cs ca cc hr.own.one.1 hr.own.one.2 u hv V ai ci (hi.low (h.fr.low.trans (hV.mono h.big))).rep (hr.below hV h.big).own.at_
end
/-- step, for a state -/
theorem step16_lt {F : Int} (hF : F ≤ 10000000) {s s2 : St} (hlt : (s.st : Int) < F) (hs : ({ s with st := s.st + 1 } : St) = s2) (ca : Option Addr) (n cc : Nat) (ia : Option Addr) (il ic : Nat) (oa : Option Addr) (oc : Nat) (V : World) :
    Calls Tryd.prog 88 #[envVal ca n cc ia il ic oa s.out.length oc (s.rd : Int) (s.st : Int) F 0] V fun e w' => e = .returned (envVal ca n cc ia il ic oa s2.out.length oc (s2.rd : Int) (s2.st : Int) F 0) ∧ Below V.heap.size V w' := by
  have h := step16_any ca n cc ia il ic oa s.out.length oc (s.rd : Int) (s.st : Int) F 0 V (by omega) (by omega)
  rw [if_neg (by omega), show (s.st : Int) + 1 = ((s.st + 1 : Nat) : Int) by omega] at h
  subst hs
  exact h
theorem step16_ge {F : Int} (hF : F ≤ 10000000) {s : St} (hge : F ≤ (s.st : Int)) (ca : Option Addr) (n cc : Nat) (ia : Option Addr) (il ic : Nat) (oa : Option Addr) (oc : Nat) (V : World) :
    Calls Tryd.prog 88 #[envVal ca n cc ia il ic oa s.out.length oc (s.rd : Int) (s.st : Int) F 0] V fun e w' => e = .returned (envVal ca n cc ia il ic oa s.out.length oc (s.rd : Int) (s.st : Int) F 13) ∧ Below V.heap.size V w' := by
  have h := step16_any ca n cc ia il ic oa s.out.length oc (s.rd : Int) (s.st : Int) F 0 V (by omega) (by omega)
  rw [if_pos hge] at h
  exact h
end Go.Proofs.YtgochgcchkdlmaaDoor

/-
  What a For statement of the reference needs (package ontimeref16).
-/
namespace Go.Proofs.YtgochgcchkdlmaaDoor
set_option linter.unusedVariables false
set_option linter.unusedSimpArgs false
open Go.RowKit Go.Maps

theorem cel_info : (Tryd.prog.info? 54).map (fun i => (i.zero, i.size, i.bytes)) = some (some (.agg #[.string ByteArray.empty, .bool false, .slice none 0 0]), 3, 48) := by kernel_rfl
theorem addr_same (a : Option Addr) (n : Nat) : (if n = 0 then a else a.map fun x => x.add 0) = a := by
  have h : a.map (fun x => x.add 0) = a := by cases a <;> simp [Addr.add]
  rw [h]
  split <;> rfl
theorem upd_upd16 {α : Type} (f : ByteArray → Option α) (nm : ByteArray) (u v : Option α) : upd (upd f nm u) nm v = upd f nm v := by
  funext x
  by_cases h : x = nm
  · subst h; rw [upd_same, upd_same]
  · rw [upd_other _ _ h, upd_other _ _ h, upd_other _ _ h]
theorem celV_no {cs : List Cel} {nm : ByteArray} (hn : ¬ Has cs nm false) : upd (celV cs) nm none = celV cs := by
  have h0 : celV cs nm = none := celL_none fV_ar (fun k d hk hh => hn ⟨k, d, hk, hh⟩)
  funext x
  by_cases h : x = nm
  · subst h; rw [upd_same, h0]
  · rw [upd_other _ _ h]
section
variable {B : Nat} {F e e' : Int} {inp : List Int} {w w' : World} {s : St} {cs csn : List Cel} {y y' : Nat → Value} {ca ca' ia oa : Option Addr} {oc : Nat}
theorem RSt.any (h : RSt B F inp w s e cs y ca ia oa oc) (hV : e' = 0 → s.V = celV cs) : RSt B F inp w s e' cs y ca ia oa oc := ⟨h.own, hV, h.A, h.out, h.inr, h.inl, h.fitI, h.stF, h.cnt⟩
theorem RSt.putV (h : RSt B F inp w s 1 cs y ca ia oa oc) (nm : ByteArray) (v : Option Int) : RSt B F inp w (s.putV nm v) 1 cs y ca ia oa oc := ⟨h.own, fun h => absurd h (by decide), h.A, h.out, h.inr, h.inl, h.fitI, h.stF, h.cnt⟩
theorem RSt.step1 (h : RSt B F inp w s 1 cs y ca ia oa oc) (hlt : (s.st : Int) < F) : RSt B F inp w { s with st := s.st + 1 } 1 cs y ca ia oa oc :=
  ⟨h.own, fun h => absurd h (by decide), h.A, h.out, h.inr, h.inl, h.fitI, by show s.st + 1 ≤ _; omega, by have := h.cnt; exact ⟨by show s.rd ≤ s.st + 1; omega, by show s.out.length ≤ s.st + 1; omega⟩⟩
theorem RSt.grow (h : RSt B F inp w s e cs y ca ia oa oc) (hc : CelsOwn B w' ca' csn y') (hb : Below w.heap.size w w') (hB : B ≤ w.heap.size) (hV : s.V = celV csn) (hA : s.A = celA csn) : RSt B F inp w' s 0 csn y' ca' ia oa oc :=
  ⟨hc, fun _ => hV, hA, own_below h.out hb, h.inr.low (hb.mono hB), h.inl, h.fitI, h.stF, h.cnt⟩
theorem RSt.drop {c : Cel} {v : Value} (h : RSt B F inp w s e (cs ++ [c]) y' ca ia oa oc) (hy : y' = y1 cs.length y v) (hc : c.arr = false) : RSt B F inp w s 1 cs y ca ia oa oc := by
  subst hy
  exact ⟨h.own.drop, fun h => absurd h (by decide), h.A.trans (celA_drop hc), h.out, h.inr, h.inl, h.fitI, h.stF, h.cnt⟩
end
end Go.Proofs.YtgochgcchkdlmaaDoor

/-
  Places of the reference's statements (package ontimeref16): index, store and receive against the interpreter's state.
-/
namespace Go.Proofs.YtgochgcchkdlmaaDoor
set_option linter.unusedVariables false
set_option linter.unusedSimpArgs false
open Go.RowKit Go.Maps

/-- the index of a place: 0 for a variable, an expression's value for an element -/
def IdxQ (p : Tree) (v : EV) (x e : Int) : Prop := (p.kind = 2 ∧ x = 0 ∧ e = 0) ∨ (p.kind = 3 ∧ e = evK v ∧ ∀ z, v = .ok z → x = z)
section
variable {B n b1 b2 b3 : Nat} {y : Nat → Value} {w W W' : World} {t : Tree} {a : Option Addr} {c : Nat} {ev : Array Value} {F er : Int} {inp : List Int} {s : St} {cs cs' : List Cel} {ca ia oa : Option Addr} {oc : Nat}
theorem idx16_at {p : Tree} {cc ic : Nat} (hp : p.vld 112 = true) (h : Fx B n b1 b2 b3 y w t a c ev W) (hr : RSt B F inp W s 0 cs y ca ia oa oc) {ai : Option Addr} {ci : Nat} (hi : InB B w p ai) :
    ∀ V, Below W.heap.size W V → Calls Tryd.prog 91 #[p.val ai ci, envVal ca cs.length cc ia inp.length ic oa s.out.length oc (s.rd : Int) (s.st : Int) F 0] V fun e w' =>
      ∃ x er', e = .returned (.tuple #[.int .i32 x, envVal ca cs.length cc ia inp.length ic oa s.out.length oc (s.rd : Int) (s.st : Int) F er']) ∧ IdxQ p ((p.kid 0).ev s.V s.A) x er' ∧ Wd.W x ∧ Below V.heap.size V w' := fun V hV => by
  rcases vldP hp with hk | ⟨hk, hl, hv⟩
  · refine (index16_var (B := B) p ai ci ca cs.length cc ia inp.length ic oa s.out.length oc (s.rd : Int) (s.st : Int) F 0 V hk).mono ?_
    rintro e w' ⟨he, hb⟩
    exact ⟨0, 0, he, .inl ⟨hk, rfl, rfl⟩, by unfold Wd.W; omega, hb⟩
  · have hb : Below B w V := h.fr.low.trans (hV.mono h.big)
    have hrV := hr.below hV h.big
    refine (index16_item p ai ci cs ca cc ia inp.length ic oa s.out.length oc (s.rd : Int) (s.st : Int) F 0 V ((p.kid 0).ev s.V s.A) hk (by omega) (hi.low hb).rep (fun V' ak ck hV' hrep => ?_)).mono ?_
    · have hB : B ≤ V.heap.size := Nat.le_trans h.big hV.size
      rw [hr.V rfl, hr.A]
      exact refE_any cs ca cc hr.own.one.1 hr.own.one.2 (p.kid 0) hv V' ak ck hrep (hrV.below hV' hB).own.at_
    · rintro e w' ⟨x, he, hx, hz, hb'⟩
      exact ⟨x, _, he, .inr ⟨hk, rfl, hz⟩, hx, hb'⟩
theorem RSt.stored {s' : St} (h : RSt B F inp W s 0 cs y ca ia oa oc) (hc : CelsOwn B W' ca cs' y) (hf : FrC B cs.length y W W') (hV : s'.V = celV cs') (hA : s'.A = celA cs') (ho : s'.out = s.out) (hst : s'.st = s.st) (hrd : s'.rd ≤ s'.st) : RSt B F inp W' s' er cs' y ca ia oa oc := by
  refine ⟨hc, fun _ => hV, hA, ?_, h.inr.low hf.low, h.inl, h.fitI, by rw [hst]; exact h.stF, hrd, by rw [ho, hst]; exact h.cnt.2⟩
  rw [ho]
  refine own_keep h.out (fun b hb hlt => hf.still b hlt (fun k hk e => ?_))
  rcases h.out.2 with ⟨h1, _⟩ | ⟨g, cap, cur, h1, _, hcur, _⟩
  · rw [h1] at hb; cases hb
  · rw [h1] at hb
    have hb : g = b := Option.some.inj hb
    subst hb
    exact own_other (h.own.own k _ (List.getElem?_eq_getElem hk)) hcur (by decide) e
theorem I32R.words (h : I32R B W ia inp) (hl : inp.length ≤ 1000000) (hw : ∀ x ∈ inp, Wd.W x) : WordsAt W ia inp := by
  refine ⟨by omega, hw, ?_⟩
  by_cases h0 : inp.length = 0
  · exact .inl h0
  · obtain ⟨b, o, e, _, _⟩ := h 0 (by omega)
    refine .inr ⟨b, o, e, fun k x hk => ?_⟩
    have hlt := (List.getElem?_eq_some_iff.1 hk).1
    obtain ⟨b', o', e', _, hc⟩ := h k hlt
    rw [e] at e'
    cases e'
    rw [hc, List.getD_eq_getElem?_getD, hk]
    rfl
/-- what a store does -/
def putR (p : Tree) (i x : Int) (s : St) : SR := if p.kind = 2 then (s.putV p.name (some x), 0) else s.putA p.name i x
/-- what the rest of an In statement does -/
def recR (inp : List Int) (p : Tree) (i : Int) (s : St) : SR := if p.kind = 2 then (s.next.putV p.name (some (nxt inp s)), 0) else s.getA inp p.name i
/-- the stored state, plainly -/
theorem put_plain {p : Tree} {ar : Bool} {k : Nat} {cl : Cel} {i x : Int} {s0 : St} (hp : p.kind = 2 ∨ p.kind = 3) (har : (p.kind == 3) = ar) (hi : p.kind = 2 → i = 0) (hV : s0.V = celV cs) (hA : s0.A = celA cs) (hfit : cl.arr = false → cl.l.length = 1) (hk : cs[k]? = some cl) (hh : cl.hit p.name ar) (hn : ∀ (k' : Nat) (d : Cel), k < k' → cs[k']? = some d → ¬ d.hit p.name ar) :
    (0 ≤ i ∧ i < (cl.l.length : Int) → ∃ s', putR p i x s0 = (s', 0) ∧ s'.V = celV (cs.set k (cl.put i.toNat x)) ∧ s'.A = celA (cs.set k (cl.put i.toNat x)) ∧ s'.out = s0.out ∧ s'.st = s0.st ∧ s'.rd = s0.rd) ∧
    (¬ (0 ≤ i ∧ i < (cl.l.length : Int)) → p.kind = 3 ∧ putR p i x s0 = (s0, 11) ∧ s0.A p.name = some cl.l) ∧ (p.kind = 3 → s0.A p.name = some cl.l) := by
  rcases hp with h2 | h3
  · have har : ar = false := by rw [← har, h2]; rfl
    subst har
    have hl := hfit hh.2
    obtain ⟨g1, g2⟩ := store_var (x := x) hk hh hl hn
    have hi0 := hi h2
    subst hi0
    refine ⟨fun _ => ⟨s0.putV p.name (some x), if_pos h2, ?_, ?_, rfl, rfl, rfl⟩, fun h => absurd ⟨by omega, by omega⟩ h, fun h => by omega⟩
    · show upd s0.V _ _ = _
      rw [hV]; exact g1.symm
    · show s0.A = _
      rw [hA]; exact g2.symm
  · have har : ar = true := by rw [← har, h3]; rfl
    subst har
    obtain ⟨g1, g2⟩ := store_arr (i := i) (x := x) hA hk hh hn
    have g3 : s0.A p.name = some cl.l := by rw [hA, ← hh.1]; exact (cel_put_a (i := 0) (x := 0) hk hh.2 (fun k' d h1 h2 => by rw [hh.1]; exact hn k' d h1 h2)).2.2
    have e : putR p i x s0 = s0.putA p.name i x := if_neg (by omega)
    refine ⟨fun h => ?_, fun h => ⟨h3, by rw [e, g2, if_neg h], g3⟩, fun _ => g3⟩
    rw [e, g2, if_pos h]
    exact ⟨_, rfl, by show s0.V = _; rw [hV]; exact g1.symm, rfl, rfl, rfl, rfl⟩
theorem rec_in {inp : List Int} {p : Tree} {i : Int} {s : St} {l : List Int} (hp : p.kind = 2 ∨ p.kind = 3) (hA : p.kind = 3 → s.A p.name = some l) (h : 0 ≤ i ∧ i < (l.length : Int)) : recR inp p i s = putR p i (nxt inp s) s.next := by
  unfold recR putR
  by_cases h2 : p.kind = 2
  · rw [if_pos h2, if_pos h2]
  · rw [if_neg h2, if_neg h2]
    unfold St.getA
    rw [hA (by omega)]
    exact if_pos h
theorem rec_out {inp : List Int} {p : Tree} {i : Int} {s : St} {l : List Int} (h3 : p.kind = 3) (hA : s.A p.name = some l) (h : ¬ (0 ≤ i ∧ i < (l.length : Int))) : recR inp p i s = (s, 11) := by
  unfold recR
  rw [if_neg (by omega)]
  unfold St.getA
  rw [hA]
  exact if_neg h
theorem store16_q {p : Tree} {pa : Option Addr} {pc cc ic : Nat} {i x : Int} (hp : p.kind = 2 ∨ p.kind = 3) (hi2 : p.kind = 2 → i = 0) (hiW : Wd.W i) (hxW : Wd.W x) (hd : (p.kind = 2 → Has cs p.name false) ∧ (p.kind = 3 → Has cs p.name true)) (hcc : cs.length ≤ cc) (hB : B ≤ W.heap.size) (hr : RSt B F inp W s 0 cs y ca ia oa oc) :
    Calls Tryd.prog 93 #[p.val pa pc, .int .i32 i, .int .i32 x, envVal ca cs.length cc ia inp.length ic oa s.out.length oc (s.rd : Int) (s.st : Int) F 0] W (RQ B F inp cs y ia ic W (putR p i x s)) := by
  obtain ⟨ar, har⟩ : ∃ ar, (p.kind == 3) = ar := ⟨_, rfl⟩
  have hhit : Has cs p.name ar := by
    rcases hp with h | h
    · rw [← har, h]; exact hd.1 h
    · rw [← har, h]; exact hd.2 h
  refine (store16_any p pa pc i x hiW hxW cs y ca cc ia inp.length ic oa s.out.length oc (s.rd : Int) (s.st : Int) F 0 W hr.own hB ar har hhit).mono ?_
  rintro e w' ⟨k, cl, hk, hh, hn, hcase, hfr⟩
  obtain ⟨g1, g2, _⟩ := put_plain (i := i) (x := x) hp har hi2 (hr.V rfl) hr.A (hr.own.fit k cl hk).2.2.2 hk hh hn
  rcases hcase with ⟨h0, h1, rfl, hco⟩ | ⟨hin, rfl, hco⟩
  · obtain ⟨s', e1, e2, e3, e4, e5, e6⟩ := g1 ⟨h0, h1⟩
    rw [e1]
    refine ⟨cs.set k (cl.put i.toNat x), ca, cc, oa, oc, ?_, celN_put hk, by rw [List.length_set]; exact hcc, hr.stored hco hfr e2 e3 e4 e5 (by rw [e5, e6]; exact hr.cnt.1), FrR.ofC hfr⟩
    show _ = Ending.returned (envVal ca (cs.set k (cl.put i.toNat x)).length cc ia inp.length ic oa s'.out.length oc (s'.rd : Int) (s'.st : Int) F 0)
    rw [List.length_set, e4, e5, e6]
  · obtain ⟨_, e1, _⟩ := g2 hin
    rw [e1]
    exact ⟨cs, ca, cc, oa, oc, rfl, rfl, hcc, hr.stored hco hfr (hr.V rfl) hr.A rfl rfl hr.cnt.1, FrR.ofC hfr⟩
theorem receive16_q {u : Tree} {ta : Option Addr} {tc cc ic : Nat} {i : Int} (hp : (u.kid 0).kind = 2 ∨ (u.kid 0).kind = 3) (hi2 : (u.kid 0).kind = 2 → i = 0) (hiW : Wd.W i) (hd : ((u.kid 0).kind = 2 → Has cs (u.kid 0).name false) ∧ ((u.kid 0).kind = 3 → Has cs (u.kid 0).name true)) (hcc : cs.length ≤ cc) (hB : B ≤ W.heap.size) (hr : RSt B F inp W s 0 cs y ca ia oa oc)
    (hin : InB B W u ta) (hl : 0 < u.len) (hst : s.rd < s.st) (hF : F ≤ 10000000) :
    Calls Tryd.prog 92 #[u.val ta tc, .int .i32 i, envVal ca cs.length cc ia inp.length ic oa s.out.length oc (s.rd : Int) (s.st : Int) F 0] W (RQ B F inp cs y ia ic W (recR inp (u.kid 0) i s)) := by
  obtain ⟨ar, har⟩ : ∃ ar, ((u.kid 0).kind == 3) = ar := ⟨_, rfl⟩
  have hhit : Has cs (u.kid 0).name ar := by
    rcases hp with h | h
    · rw [← har, h]; exact hd.1 h
    · rw [← har, h]; exact hd.2 h
  have hsf := hr.stF
  refine (receive16_any u ta tc i hiW cs y ca cc ia inp ic oa s.out.length oc s.rd (s.st : Int) F W hr.own hB (hr.inr.words hr.inl hr.fitI) hin hl (by omega) ar har hhit).mono ?_
  rintro e w' ⟨k, cl, hk, hh, hn, hcase, hfr⟩
  obtain ⟨g1, g2, g3⟩ := put_plain (s0 := s.next) (i := i) (x := nxt inp s) hp har hi2 (hr.V rfl) hr.A (hr.own.fit k cl hk).2.2.2 hk hh hn
  rcases hcase with ⟨h0, h1, rfl, hco⟩ | ⟨hin, rfl, hco⟩
  · obtain ⟨s', e1, e2, e3, e4, e5, e6⟩ := g1 ⟨h0, h1⟩
    rw [rec_in (s := s) hp g3 ⟨h0, h1⟩, e1]
    refine ⟨cs.set k (cl.put i.toNat (nxt inp s)), ca, cc, oa, oc, ?_, celN_put hk, by rw [List.length_set]; exact hcc, hr.stored hco hfr e2 e3 e4 e5 (by rw [e5, e6]; exact hst), FrR.ofC hfr⟩
    show _ = Ending.returned (envVal ca (cs.set k (cl.put i.toNat (nxt inp s))).length cc ia inp.length ic oa s'.out.length oc (s'.rd : Int) (s'.st : Int) F 0)
    rw [List.length_set, e4, e5, e6]
    rfl
  · obtain ⟨e0, _, e2⟩ := g2 hin
    rw [rec_out (s := s) e0 e2 hin]
    exact ⟨cs, ca, cc, oa, oc, rfl, rfl, hcc, hr.stored hco hfr (hr.V rfl) hr.A rfl rfl hr.cnt.1, FrR.ofC hfr⟩
/-- rows of outputs are no words, no cells -/
theorem RSt.outs {k : Nat} {o : Obj} (h : RSt B F inp W s er cs y ca ia oa oc) (hk : W.heap[k]? = some o) (hn : NotOut o) : (Value.slice oa s.out.length oc).ownBlock ≠ some k := fun e => by
  rcases h.out.2 with ⟨e1, _⟩ | ⟨g, cap, cur, e1, _, hc, _⟩
  · rw [e1] at e; cases e
  · rw [e1] at e
    have e : g = k := Option.some.inj e
    subst e
    rw [hc] at hk
    cases hk
    exact hn rfl
theorem RSt.frOut {w9 : World} (h : RSt B F inp W s er cs y ca ia oa oc) (hB : B ≤ W.heap.size) (hg : W.grownBy w9 (Value.slice oa s.out.length oc).ownBlock) : FrR B n y W w9 :=
  ⟨(Below.refl _ _).grown hg hB (fun k hk => (own_lt h.out hk).1), fun b o ho hn _ => (hg.block b (mem_lt ho) (h.outs ho hn).symm).trans ho⟩
/-- an output is appended -/
theorem RSt.push {w9 : World} {o v : Int} {oa' : Option Addr} {oc' : Nat} (h : RSt B F inp W s 0 cs y ca ia oa oc) (hB : B ≤ W.heap.size) (hg : W.grownBy w9 (Value.slice oa s.out.length oc).ownBlock) (ho : w9.ownsRow B 80 2 (.slice oa' (s.out.length + 1) oc') (s.out.length + 1) (outCells s.out ++ [.int .i64 o, .int .i32 v])) (hst : s.out.length < s.st) :
    RSt B F inp w9 { s with out := s.out ++ [(o, v)] } 0 cs y ca ia oa' oc' := by
  have hkeep : ∀ {k : Nat} {ob : Obj}, W.heap[k]? = some ob → NotOut ob → w9.heap[k]? = W.heap[k]? := fun {k ob} hk hn => hg.block k (mem_lt hk) (h.outs hk hn).symm
  have hlow : Below B W w9 := (h.frOut (n := 0) hB hg).low
  refine ⟨⟨h.own.len, fun k c hk => ?_, fun b off e => ?_, fun k c hk => ?_, h.own.fit, h.own.apart⟩, h.V, h.A, ?_, h.inr.low hlow, h.inl, h.fitI, h.stF, ⟨h.cnt.1, by show (s.out ++ [(o, v)]).length ≤ s.st; rw [List.length_append]; exact hst⟩⟩
  · obtain ⟨b, off, h1, h2, h3, h4⟩ := h.own.row k c hk
    have hkl := (List.getElem?_eq_some_iff.1 hk).1
    have hb : w9.heap[b]? = W.heap[b]? := by
      rcases h.own.ty b off h1 with h9 | ⟨arr, h9⟩
      · omega
      · exact hkeep h9 (by show 54 ≠ 80; decide)
    have hc : ∀ o, w9.cell? ⟨b, o, none⟩ = W.cell? ⟨b, o, none⟩ := fun o => World.cell?_of_block hb
    exact ⟨b, off, h1, (hc _).trans h2, (hc _).trans h3, (hc _).trans h4⟩
  · rcases h.own.ty b off e with h0 | ⟨arr, h1⟩
    · exact .inl h0
    · exact .inr ⟨arr, (hkeep h1 (by show 54 ≠ 80; decide)).trans h1⟩
  · have ho2 := h.own.own k c hk
    refine own_keep ho2 (fun b hb hlt => ?_)
    rcases ho2.2 with ⟨e1, _⟩ | ⟨g, cap, cur, e1, _, hc, _⟩
    · rw [e1] at hb; cases hb
    · rw [e1] at hb
      have hb : g = b := Option.some.inj hb
      subst hb
      exact hkeep hc (by show 21 ≠ 80; decide)
  · show World.ownsRow _ _ _ _ _ (s.out ++ [(o, v)]).length (outCells (s.out ++ [(o, v)]))
    rw [List.length_append, outCells_snoc]
    exact ho
end
/-- an assignment, plainly -/
def asgP (p : Tree) (v0 v1 : EV) (s : St) : SR := if p.kind = 2 then runE v1 s fun v => (s.putV p.name (some v), 0) else runE v0 s fun i => runE v1 s fun v => s.putA p.name i v
def recP (inp : List Int) (p : Tree) (v0 : EV) (s : St) : SR := if p.kind = 2 then (s.next.putV p.name (some (nxt inp s)), 0) else runE v0 s fun i => s.getA inp p.name i
theorem idx_val {p : Tree} {v0 : EV} {x : Int} (h : IdxQ p v0 x 0) (hne : ∀ k, v0 = .er k → k ≠ 0) (h2 : p.kind ≠ 2) : v0 = .ok x := by
  rcases h with ⟨h, _⟩ | ⟨_, h, hx⟩
  · exact absurd h h2
  · cases v0 with
    | er k => exact absurd h.symm (hne k rfl)
    | ok z => rw [hx z rfl]
theorem asg_ok {p : Tree} {v0 v1 : EV} {x : Int} {s : St} (h : IdxQ p v0 x 0) (hne : ∀ k, v0 = .er k → k ≠ 0) : asgP p v0 v1 s = runE v1 s fun z => putR p x z s := by
  unfold asgP putR
  by_cases h2 : p.kind = 2
  · rw [if_pos h2]; simp only [if_pos h2]
  · rw [if_neg h2, idx_val h hne h2]; simp only [if_neg h2]; rfl
theorem rec_ok {inp : List Int} {p : Tree} {v0 : EV} {x : Int} {s : St} (h : IdxQ p v0 x 0) (hne : ∀ k, v0 = .er k → k ≠ 0) : recP inp p v0 s = recR inp p x s := by
  unfold recP recR
  by_cases h2 : p.kind = 2
  · rw [if_pos h2, if_pos h2]
  · rw [if_neg h2, if_neg h2, idx_val h hne h2]; rfl
theorem idx_er {p : Tree} {v0 : EV} {x e : Int} (h : IdxQ p v0 x e) (he : e ≠ 0) : p.kind = 3 ∧ v0 = .er e := by
  rcases h with ⟨_, _, h⟩ | ⟨h3, h, _⟩
  · exact absurd h he
  · cases v0 with
    | er k => rw [h]; exact ⟨h3, rfl⟩
    | ok z => exact absurd h he
theorem asg_er {p : Tree} {v0 v1 : EV} {x e : Int} {s : St} (h : IdxQ p v0 x e) (he : e ≠ 0) : asgP p v0 v1 s = (s, e) := by
  obtain ⟨h3, h4⟩ := idx_er h he
  unfold asgP
  rw [if_neg (by omega), h4]; rfl
theorem rec_er {inp : List Int} {p : Tree} {v0 : EV} {x e : Int} {s : St} (h : IdxQ p v0 x e) (he : e ≠ 0) : recP inp p v0 s = (s, e) := by
  obtain ⟨h3, h4⟩ := idx_er h he
  unfold recP
  rw [if_neg (by omega), h4]; rfl
/-- an end of a region: nine slots from lo on, and two more -/
def putNine (ts : Array Value) : Nat → List Value → Array Value
  | _, [] => ts
  | lo, y :: l => putNine (ts.setIfInBounds lo y) (lo + 1) l
def End9 (lo s1 s2 : Nat) (P : Value → Value → World → Prop) (a a' : Act) (w' : World) : Prop := ∃ (l : List Value) (v1 v2 : Value), l.length = 9 ∧ a' = { a with tmps := ((putNine a.tmps lo l).setIfInBounds s1 v1).setIfInBounds s2 v2 } ∧ P v1 v2 w'
theorem list9_16 {α : Type} {l : List α} (h : l.length = 9) : ∃ a0 a1 a2 a3 a4 a5 a6 a7 a8, l = [a0, a1, a2, a3, a4, a5, a6, a7, a8] := by
  match l, h with
  | [a0, a1, a2, a3, a4, a5, a6, a7, a8], _ => exact ⟨a0, a1, a2, a3, a4, a5, a6, a7, a8, rfl⟩
def OnlyRun16 (R : Act → World → Prop) : Exit → Act → World → Prop
  | .normal, a, w => R a w
  | _, _, _ => False
theorem cut_run16 {P : Program} {cd : Code} {Q : Exit → Act → World → Prop} {a : Act} {W : World} (R : Act → Act → World → Prop)
    (h : cd.wp P (OnlyRun16 (R a)) a W) (hq : ∀ a' w', R a a' w' → Q .normal a' w') : cd.wp P Q a W :=
  wp_mono h fun e a' w' h' => by cases e <;> first | exact hq a' w' h' | exact (h' : False).elim
end Go.Proofs.YtgochgcchkdlmaaDoor
