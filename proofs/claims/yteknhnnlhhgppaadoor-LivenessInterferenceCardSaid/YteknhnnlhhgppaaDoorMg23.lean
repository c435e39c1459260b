/-
  Mg23: several texts in one (Mem, DeadV).
-/
import Derived.WalkKit
import Derived.Below
import Derived.Laws.AppendOwn
import Derived.Lib.Hide
import Derived.Deep.QuietTactic
import Derived.Test.YteknhnnlhhgppaaDoorLiveAfter
import Derived.Test.YteknhnnlhhgppaaDoorMg4
import Derived.Test.YteknhnnlhhgppaaDoorMg3
import Derived.Deep.DeepCutAuto
/-
  Small facts of memory. No program is named here.
-/
namespace Go.Proofs.YteknhnnlhhgppaaDoor
set_option linter.unusedVariables false
set_option linter.unusedSimpArgs false
open Go.RowKit

theorem mem_cell {w : World} {b : Nat} {arr : Array Value} {t : TypeId} (h : w.heap[b]? = some (.cells arr t)) (i : Nat) : w.cell? ⟨b, i, none⟩ = arr[i]? := by
  simp [World.cell?, h]
theorem mem_set {w : World} {b i : Nat} {arr : Array Value} {t : TypeId} {v : Value} (h : w.heap[b]? = some (.cells arr t)) : (w.setCell ⟨b, i, none⟩ v).heap[b]? = some (.cells (arr.setIfInBounds i v) t) := by
  simp [World.setCell, Array.getElem?_modify, h]
theorem mem_free {w : World} {b : Nat} {arr : Array Value} {t : TypeId} (h : w.heap[b]? = some (.cells arr t)) (i : Nat) : w.frozen? ⟨b, i, none⟩ = false := by
  simp [World.frozen?, h]
theorem mem_lt {w : World} {b : Nat} {o : Obj} (h : w.heap[b]? = some o) : b < w.heap.size := (Array.getElem?_eq_some_iff.1 h).1
theorem mem_keep {w w' : World} {b : Nat} {o : Obj} (h : w.heap[b]? = some o) (hB : Below w.heap.size w w') : w'.heap[b]? = some o := (hB.block b (mem_lt h)).trans h
theorem mem_then {W w1 w2 : World} (h : Below W.heap.size W w1) (hB : Below w1.heap.size w1 w2) : Below W.heap.size W w2 := h.trans (hB.mono h.size)
theorem mem_new (w : World) (o : Obj) : (w.alloc o).heap[w.heap.size]? = some o := by
  show (w.heap.push o)[w.heap.size]? = some o
  simp
theorem mem_new1 (w : World) (a b : Obj) : ((w.alloc a).alloc b).heap[w.heap.size + 1]? = some b := by
  have := mem_new (w.alloc a) b
  simpa using this
theorem mem_old1 (w : World) (a b : Obj) : ((w.alloc a).alloc b).heap[w.heap.size]? = some a := by
  rw [Below.heap_alloc _ _ _ (by simp)]
  exact mem_new w a
theorem mem_alloc (w : World) (o : Obj) : Below w.heap.size w (w.alloc o) := (Below.refl _ _).alloc (Nat.le_refl _) o
theorem mem_drawn {W wr V : World} {n : Nat} (h : Below W.heap.size W wr) (hV : World.drewN wr n = V) : Below W.heap.size W V := by
  rw [← hV]
  exact ⟨h.os, h.tape, h.output, h.size, h.block⟩
theorem mem_three (w : World) (a b c : Obj) : (((w.alloc a).alloc b).alloc c).heap[w.heap.size]? = some a ∧ (((w.alloc a).alloc b).alloc c).heap[w.heap.size + 1]? = some b ∧ (((w.alloc a).alloc b).alloc c).heap[w.heap.size + 1 + 1]? = some c ∧ Below w.heap.size w (((w.alloc a).alloc b).alloc c) := by
  refine ⟨?_, ?_, ?_, (((Below.refl _ _).alloc (Nat.le_refl _) _).alloc (by simp) _).alloc (by simp; omega) _⟩
  · rw [Below.heap_alloc _ _ _ (by simp; omega)]; exact mem_old1 w a b
  · rw [Below.heap_alloc _ _ _ (by simp)]; exact mem_new1 w a b
  · have := mem_new1 (w.alloc a) b c
    simpa using this
theorem own_lt {w : World} {base : Nat} {e : TypeId} {size : Nat} {v : Value} {n : Nat} {xs : List Value} (h : w.ownsRow base e size v n xs) {k : Nat} (hk : v.ownBlock = some k) : base ≤ k ∧ k < w.heap.size := by
  rcases h.2 with ⟨rfl, _⟩ | ⟨g, cap, cur, rfl, hg, hc, r⟩
  · cases hk
  · cases hk; exact ⟨hg, (Array.getElem?_eq_some_iff.1 hc).1⟩
theorem own_val {w : World} {base : Nat} {e : TypeId} {size : Nat} {v : Value} {n : Nat} {xs : List Value} (h : w.ownsRow base e size v n xs) : ∃ a c, v = .slice a n c := by
  rcases h.2 with ⟨rfl, rfl⟩ | ⟨g, cap, cur, rfl, _⟩
  · exact ⟨_, _, rfl⟩
  · exact ⟨_, _, rfl⟩
theorem own_at {w : World} {base : Nat} {e : TypeId} {size : Nat} {a : Option Addr} {n c : Nat} {xs : List Value} (h : w.ownsRow base e size (.slice a n c) n xs) (hn : 0 < n) : ∃ b, a = some ⟨b, 0, none⟩ ∧ base ≤ b ∧ b < w.heap.size := by
  rcases h.2 with ⟨_, h0⟩ | ⟨g, cap, cur, hv, hg, hc, _⟩
  · omega
  · injection hv with hv; exact ⟨g, hv, hg, mem_lt hc⟩
theorem own_get {w : World} {base : Nat} {e : TypeId} {size gb m n cap : Nat} {xs : List Value} {j : Nat} {u : Value} (h : w.ownsRow base e size (.slice (some ⟨gb, 0, none⟩) m cap) n xs) (hu : xs[j]? = some u) : w.cell? ⟨gb, j, none⟩ = some u := by
  have := h.cells rfl j u hu
  have e : (⟨gb, 0, none⟩ : Addr).add j = ⟨gb, j, none⟩ := by
    unfold Addr.add
    by_cases h0 : j = 0 <;> simp [h0]
  rwa [e] at this
theorem own_size {w : World} {base : Nat} {e : TypeId} {size : Nat} {v : Value} {n : Nat} {xs : List Value} (h : w.ownsRow base e size v n xs) : n ≤ 9223372036854775807 := by
  rcases h.2 with ⟨_, rfl⟩ | ⟨g, cap, cur, rfl, _, _, h1, h2, _⟩
  · omega
  · have : cap ≤ 9223372036854775807 := h2
    omega
theorem own_keep {w w' : World} {base : Nat} {e : TypeId} {size : Nat} {v : Value} {n : Nat} {xs : List Value} (h : w.ownsRow base e size v n xs) (hb : ∀ k, v.ownBlock = some k → k < w.heap.size → w'.heap[k]? = w.heap[k]?) : w'.ownsRow base e size v n xs := by
  obtain ⟨h1, h2⟩ := h
  refine ⟨h1, ?_⟩
  rcases h2 with h2 | ⟨g, cap, cur, rfl, hg, hc, r⟩
  · exact .inl h2
  · exact .inr ⟨g, cap, cur, rfl, hg, (hb g rfl (mem_lt hc)).trans hc, r⟩
theorem own_below {w w' : World} {base : Nat} {e : TypeId} {size : Nat} {v : Value} {n : Nat} {xs : List Value} (h : w.ownsRow base e size v n xs) (hb : Below w.heap.size w w') : w'.ownsRow base e size v n xs :=
  own_keep h (fun k _ hk => hb.block k hk)
/-- rows of another type lie elsewhere -/
theorem own_other {w : World} {base : Nat} {e t : TypeId} {size m b : Nat} {v : Value} {xs : List Value} {arr : Array Value} (h : w.ownsRow base e size v m xs) (hb : w.heap[b]? = some (.cells arr t)) (hT : t ≠ e) : v.ownBlock ≠ some b := by
  intro e1
  rcases h.2 with ⟨rfl, _⟩ | ⟨g, cap, cur, rfl, _, hc, _⟩
  · cases e1
  · have e1 : g = b := by injection e1
    subst e1
    rw [hb] at hc
    injection hc with hc
    injection hc with _ e2
    exact hT e2
theorem own_down {w : World} {base base' : Nat} {e : TypeId} {size : Nat} {v : Value} {n : Nat} {xs : List Value} (h : w.ownsRow base e size v n xs) (hb : base' ≤ base) : w.ownsRow base' e size v n xs := by
  obtain ⟨h1, h2⟩ := h
  refine ⟨h1, ?_⟩
  rcases h2 with h2 | ⟨g, cap, cur, rfl, hg, r⟩
  · exact .inl h2
  · exact .inr ⟨g, cap, cur, rfl, Nat.le_trans hb hg, r⟩
end Go.Proofs.YteknhnnlhhgppaaDoor

/-
  Contract: the visitor of Dead (package liveness): a dead instruction's place is put behind those found before.
-/
namespace Go.Proofs.YteknhnnlhhgppaaDoor
set_option linter.unusedVariables false
set_option linter.unusedSimpArgs false
open Go.RowKit
set_option maxRecDepth 100000
set_option maxHeartbeats 16000000

theorem Tryd.infoPair : (Tryd.prog.info? 80).map (fun i => (i.zero, i.size, i.bytes)) = some (some (.agg #[.int .i64 0, .int .i64 0]), 2, 16) := by kernel_rfl
def encP (x : Int × Int) : List Value := [.int .i64 x.1, .int .i64 x.2]
theorem encP_len (x : Int × Int) : (encP x).length = 2 := rfl
theorem encP_one (D : List (Int × Int)) : ∀ u ∈ D.flatMap encP, u.oneCell' = true := by
  intro u hu
  obtain ⟨p, _, hp⟩ := List.mem_flatMap.1 hu
  simp [encP] at hp
  rcases hp with rfl | rfl <;> rfl
/-- what lies from T on stays, rows of pairs apart -/
def AboveP (T : Nat) (w w' : World) : Prop := w.heap.size ≤ w'.heap.size ∧ ∀ k, T ≤ k → k < w.heap.size → (∀ arr fz, w.heap[k]? ≠ some (.cells arr 80 fz)) → w'.heap[k]? = w.heap[k]?
/-- Dead, in after: what was found, in the box's row -/
structure DeadSt (f : Fn) (aa ba : Option Addr) (ac bc : Nat) (R n fb db : Nat) (T : Nat) (w0 w : World) (D : List (Int × Int)) : Prop where
  fbox : w.heap[fb]? = some (.cells #[.string f.name, .int .i64 (R : Int), .slice aa f.arrays.length ac, .slice ba n bc] 25)
  row : ∃ dv, w.heap[db]? = some (.cells #[dv] 76) ∧ w.ownsRow w0.heap.size 80 2 dv D.length (D.flatMap encP)
  bel : Below w0.heap.size w0 w
  t1 : fb < T
  t2 : db < T
  t5 : T ≤ w.heap.size
  t6 : w0.heap.size ≤ T
  ne : w0.heap.size ≤ fb ∧ w0.heap.size ≤ db ∧ fb ≠ db
section
variable {f : Fn} {aa ba : Option Addr} {ac bc R n fb db T : Nat} {w0 w w' : World} {D : List (Int × Int)}
theorem DeadSt.keep (h : DeadSt f aa ba ac bc R n fb db T w0 w D) (hB : Below w.heap.size w w') : DeadSt f aa ba ac bc R n fb db T w0 w' D := by
  obtain ⟨dv, h1, h2⟩ := h.row
  have l1 := h.t1
  have l2 := h.t2
  have l5 := h.t5
  exact { h with fbox := (hB.block _ (by omega)).trans h.fbox, row := ⟨dv, (hB.block _ (by omega)).trans h1, ownsRow_below h2 hB⟩, bel := h.bel.trans (hB.mono h.bel.size), t5 := Nat.le_trans h.t5 hB.size }
/-- a row of another type turns -/
theorem DeadSt.turn {M size' m : Nat} {e : TypeId} {u : Value} {ys : List Value} (h : DeadSt f aa ba ac bc R n fb db T w0 w D) (k : w.ownsRow M e size' u m ys) (hM : w0.heap.size ≤ M) (h1 : e ≠ 25) (h2 : e ≠ 76) (h3 : e ≠ 80) (ht : Turn u w w') : DeadSt f aa ba ac bc R n fb db T w0 w' D := by
  obtain ⟨dv, r1, r2⟩ := h.row
  exact { h with fbox := block_other k h.fbox (Ne.symm h1) ht, row := ⟨dv, block_other k r1 (Ne.symm h2) ht, row_other r2 k h3 ht⟩, bel := h.bel.trans (ht.below h.bel.size (fun b hb => Nat.le_trans hM (ownsRow_lt k hb).1)), t5 := Nat.le_trans h.t5 ht.size }
theorem AboveP.after (hB : Below w.heap.size w w') {F : World} (h : AboveP T w' F) : AboveP T w F :=
  ⟨Nat.le_trans hB.size h.1, fun k hk hl hn => by
    have e := hB.block k hl
    rw [h.2 k hk (Nat.lt_of_lt_of_le hl hB.size) (fun arr fz h9 => hn arr fz (by rw [← e]; exact h9)), e]⟩
theorem DeadSt.push {w2 V : World} {va da : Option Addr} {vc dc : Nat} {x : Int × Int} (h : DeadSt f aa ba ac bc R n fb db T w0 V D) (hb : V.heap[db]? = some (.cells #[.slice da D.length dc] 76)) (hown : V.ownsRow w0.heap.size 80 2 (.slice da D.length dc) D.length (D.flatMap encP))
    (ho2 : w2.ownsRow w0.heap.size 80 2 (.slice va (D.length + 1) vc) (D.length + 1) (D.flatMap encP ++ encP x)) (hg : V.grownBy w2 (Value.slice da D.length dc).ownBlock) :
    DeadSt f aa ba ac bc R n fb db T w0 (w2.setCell ⟨db, 0, none⟩ (.slice va (D.length + 1) vc)) (D ++ [x]) ∧ AboveP T V (w2.setCell ⟨db, 0, none⟩ (.slice va (D.length + 1) vc)) := by
  have l1 := h.t1
  have l2 := h.t2
  have l5 := h.t5
  have hdb2 : w2.heap[db]? = some (.cells #[.slice da D.length dc] 76) := (hg.block db (by omega) (fun e => ownsRow_ne hown hb (by decide) e.symm)).trans hb
  have hfb2 : w2.heap[fb]? = V.heap[fb]? := hg.block fb (by omega) (fun e => ownsRow_ne hown h.fbox (by decide) e.symm)
  have hbel2 : Below w0.heap.size w0 w2 := h.bel.grown hg h.bel.size (fun b hb9 => (ownsRow_lt hown hb9).1)
  refine ⟨{ h with fbox := (Below.heap_setCell _ _ _ _ h.ne.2.2).trans (hfb2.trans h.fbox), row := ⟨.slice va (D.length + 1) vc, ?_, ?_⟩, bel := hbel2.setCell (p := ⟨db, 0, none⟩) h.ne.2.1 _, t5 := ?_ }, ?_, fun k hk hl hn => ?_⟩
  · rw [mem_set hdb2]; rfl
  · rw [List.length_append, List.flatMap_append, List.flatMap_singleton]
    refine ownsRow_move ho2 (fun b hb9 _ => Below.heap_setCell _ _ _ _ ?_)
    show b ≠ db
    rintro rfl
    exact ownsRow_ne ho2 hdb2 (by decide) hb9
  · have := hg.size
    simp
    omega
  · have := hg.size
    simp
    omega
  · rw [Below.heap_setCell _ _ _ _ (show k ≠ db by omega)]
    refine hg.block k hl (fun e => ?_)
    rcases hown.2 with ⟨e1, _⟩ | ⟨g', cap, cur, e1, _, hc, _⟩
    · injection e1 with e1
      subst e1
      cases e
    · injection e1 with e1
      subst e1
      have e : k = g' := by injection e
      subst e
      exact hn _ _ hc
end
theorem dvisit_any (f : Fn) (aa ba : Option Addr) (ac bc R n fb db T C s k i : Nat) (b : Blk) (q : Ins) (lv : Value) (w0 w : World) (D : List (Int × Int)) (hf : FnAt w0 f aa ba) (hn : f.blocks.length = n)
    (h : DeadSt f aa ba ac bc R n fb db T w0 w D) (hl : SetV C R w lv s) (hb : f.blocks[k]? = some b) (hq : b.code[i]? = some q) (hqr : InsR R q) (hDl : D.length ≤ 1000000) :
    Calls Tryd.prog 67 #[.int .i64 (k : Int), .int .i64 (i : Int), lv, .pointer (some ⟨fb, 0, none⟩), .pointer (some ⟨db, 0, none⟩)] w
      fun e w' => (∃ u, e = .returned u) ∧ DeadSt f aa ba ac bc R n fb db T w0 w' (D ++ (if (removable q && !(s.testBit q.dst.toNat)) = true then [pairKI k i] else [])) ∧ AboveP T w w' := by
  have HI := Lib.hid h
  have HLV := Lib.hid hl
  have HQR := Lib.hid hqr
  have hkn : k < n := by have := (List.getElem?_eq_some_iff.1 hb).1; omega
  have hil := (List.getElem?_eq_some_iff.1 hq).1
  rcases hf.blocks.at_ with hz | ⟨bb, off, rfl, hk⟩
  · omega
  obtain ⟨ca, cc, hba, hcode⟩ := hk k b hb
  obtain ⟨c0, c1, c2, c3, c4⟩ := hba.below h.bel
  rcases hcode.at_ with hz | ⟨cb, co, rfl, hcc⟩
  · omega
  obtain ⟨g0, g1, g2, g3, g4, g5⟩ := (hcc i q hq).below h.bel
  have x3 : w.cell? ⟨fb, 3, none⟩ = some (.slice (some ⟨bb, off, none⟩) n bc) := cell_heap h.fbox 3
  have hk0 : (0 : Int) ≤ (k : Int) := by omega
  have hk1 : (k : Int) < (n : Int) := by omega
  have hi0 : (0 : Int) ≤ (i : Int) := by omega
  have hi1 : (i : Int) < (b.code.length : Int) := by omega
  obtain ⟨la, lc, rfl⟩ := ownsRow_val hl.row
  obtain ⟨W, hW⟩ : ∃ W : World, w.alloc (.cells #[.int .u8 q.op, .int .i64 q.dst, .int .i64 q.x, .int .i64 q.y, .int .i64 q.imm, .string q.sym] 54) = W := ⟨_, rfl⟩
  have HBW : Hid (Below w.heap.size w W) := by show Below _ _ _; rw [← hW]; exact mem_alloc _ _
  have HX : Hid (W.heap[w.heap.size]? = some (.cells #[.int .u8 q.op, .int .i64 q.dst, .int .i64 q.x, .int .i64 q.y, .int .i64 q.imm, .string q.sym] 54)) := by show _ = _; rw [← hW]; exact mem_new _ _
  have HIW := Lib.hid (HI.out.keep HBW.out)
  have HLW := Lib.hid (HLV.out.keep HBW.out)
  have y0 : W.cell? ⟨w.heap.size, 0, none⟩ = some (.int .u8 q.op) := mem_cell HX.out 0
  have y1 : W.cell? ⟨w.heap.size, 1, none⟩ = some (.int .i64 q.dst) := mem_cell HX.out 1
  have y4 : W.cell? ⟨w.heap.size, 4, none⟩ = some (.int .i64 q.imm) := mem_cell HX.out 4
  obtain ⟨L9, hL9⟩ : ∃ L, (D ++ (if (removable q && !(s.testBit q.dst.toNat)) = true then [pairKI k i] else [])) = L := ⟨_, rfl⟩
  rw [hL9]
  have HL9 := Lib.hid hL9
  clear h hl hqr hk hba hcode hcc hb hq hL9
  go_enter Tryd.func67, Tryd.ntmps67
  go_upto_region 1 with fail
  clear hW x3 c0 c1 c2 c3 c4 g0 g1 g2 g3 g4 g5
  obtain ⟨V0, hV0⟩ : ∃ V : World, V = W := ⟨_, rfl⟩
  subst hV0
  go_cut [9] (fun s1 w' => s1 = .bool (removable q) ∧ w' = V0)
  case first =>
    by_cases a1 : q.op = 1
    · skip
      have a1b : (q.op == 1) = true := by simp [a1]
      have a1d : decide (q.op = 1) = true := by simp [a1]
      have a1n : (q.op != 1) = false := by simp [a1]
      have HR9 : Hid (removable q = true) := by show _ = _; unfold removable; simp [a1]
      clear a1
      go_wp2_with fail
      go_meet
      exact ⟨by rw [HR9.out], rfl⟩
    have a1b : (q.op == 1) = false := by simpa using a1
    have a1d : decide (q.op = 1) = false := by simpa using a1
    have a1n : (q.op != 1) = true := by simpa using a1
    by_cases a2 : q.op = 2
    · skip
      have a2b : (q.op == 2) = true := by simp [a2]
      have a2d : decide (q.op = 2) = true := by simp [a2]
      have a2n : (q.op != 2) = false := by simp [a2]
      have HR9 : Hid (removable q = true) := by show _ = _; unfold removable; simp [a1, a2]
      clear a1 a2
      go_wp2_with fail
      go_meet
      exact ⟨by rw [HR9.out], rfl⟩
    have a2b : (q.op == 2) = false := by simpa using a2
    have a2d : decide (q.op = 2) = false := by simpa using a2
    have a2n : (q.op != 2) = true := by simpa using a2
    by_cases a3 : q.op = 15
    · skip
      have a3b : (q.op == 15) = true := by simp [a3]
      have a3d : decide (q.op = 15) = true := by simp [a3]
      have a3n : (q.op != 15) = false := by simp [a3]
      have HR9 : Hid (removable q = true) := by show _ = _; unfold removable; simp [a1, a2, a3]
      clear a1 a2 a3
      go_wp2_with fail
      go_meet
      exact ⟨by rw [HR9.out], rfl⟩
    have a3b : (q.op == 15) = false := by simpa using a3
    have a3d : decide (q.op = 15) = false := by simpa using a3
    have a3n : (q.op != 15) = true := by simpa using a3
    by_cases a4 : q.op = 3
    case neg =>
      have a4b : (q.op == 3) = false := by simpa using a4
      have a4d : decide (q.op = 3) = false := by simpa using a4
      have a4n : (q.op != 3) = true := by simpa using a4
      have HR9 : Hid (removable q = false) := by show _ = _; unfold removable; simp [a1, a2, a3, a4]
      clear a1 a2 a3 a4
      go_wp2_with fail
      go_meet
      exact ⟨by rw [HR9.out], rfl⟩
    have a4b : (q.op == 3) = true := by simp [a4]
    have a4d : decide (q.op = 3) = true := by simp [a4]
    have a4n : (q.op != 3) = false := by simp [a4]
    by_cases a5 : q.imm = 9
    · skip
      have a5b : (q.imm == 9) = true := by simp [a5]
      have a5d : decide (q.imm = 9) = true := by simp [a5]
      have a5n : (q.imm != 9) = false := by simp [a5]
      have HR9 : Hid (removable q = false) := by show _ = _; unfold removable; simp [a1, a2, a3, a4, a5]
      clear a1 a2 a3 a4 a5
      go_wp2_with fail
      go_meet
      exact ⟨by rw [HR9.out], rfl⟩
    have a5b : (q.imm == 9) = false := by simpa using a5
    have a5d : decide (q.imm = 9) = false := by simpa using a5
    have a5n : (q.imm != 9) = true := by simpa using a5
    by_cases a6 : q.imm = 10
    · skip
      have a6b : (q.imm == 10) = true := by simp [a6]
      have a6d : decide (q.imm = 10) = true := by simp [a6]
      have a6n : (q.imm != 10) = false := by simp [a6]
      have HR9 : Hid (removable q = false) := by show _ = _; unfold removable; simp [a1, a2, a3, a4, a5, a6]
      clear a1 a2 a3 a4 a5 a6
      go_wp2_with fail
      go_meet
      exact ⟨by rw [HR9.out], rfl⟩
    have a6b : (q.imm == 10) = false := by simpa using a6
    have a6d : decide (q.imm = 10) = false := by simpa using a6
    have a6n : (q.imm != 10) = true := by simpa using a6
    have HR9 : Hid (removable q = true) := by show _ = _; unfold removable; simp [a1, a2, a3, a4, a5, a6]
    clear a1 a2 a3 a4 a5 a6
    go_wp2_with fail
    go_meet
    exact ⟨by rw [HR9.out], rfl⟩
  case rest =>
    obtain ⟨rfl, hwc⟩ := hcut
    subst hwc
    have y1 : wc.cell? ⟨w.heap.size, 1, none⟩ = some (.int .i64 q.dst) := mem_cell HX.out 1
    have HAB : Hid (AboveP T w wc) := ⟨HBW.out.size, fun z _ hlt _ => HBW.out.block z hlt⟩
    cases hrm : removable q with
    | false =>
      have HZZ : Hid (D = L9) := by
        show _ = _
        rw [← HL9.out, hrm]
        simp
      clear hrm
      go_wp2_with fail
      go_end0
      exact ⟨⟨_, rfl⟩, HZZ.out ▸ HIW.out, HAB.out⟩
    | true =>
      obtain ⟨hd0, hd1⟩ := HQR.out.dfn _ (removable_def hrm)
      obtain ⟨r, hr⟩ : ∃ r : Nat, q.dst = (r : Int) := ⟨q.dst.toNat, by omega⟩
      have hrR : r < R := by omega
      rw [hr] at y1
      have HZ0 : Hid (D ++ (if (!(s.testBit r)) = true then [pairKI k i] else []) = L9) := by
        show _ = _
        rw [← HL9.out, hrm, hr, Int.toNat_natCast, Bool.true_and]
      have QC := fun w' h => contains_any (B := C) (R := R) (s := s) (v := .slice la (nw R) lc) r w' h hrR
      clear hd0 hd1 hrm
      cases hbt : s.testBit r with
      | true =>
        have HZZ : Hid (D = L9) := by
          show _ = _
          rw [← HZ0.out, hbt]
          simp
        rw [hbt] at QC
        clear hbt
        go_wp2_with fail
        refine (QC _ HLW.out).mono ?_
        rintro e w5 ⟨rfl, rfl⟩
        go_wp2_with fail
        go_end0
        exact ⟨⟨_, rfl⟩, HZZ.out ▸ HIW.out, HAB.out⟩
      | false =>
        have HZZ : Hid (D ++ [pairKI k i] = L9) := by
          show _ = _
          rw [← HZ0.out, hbt]
          simp
        rw [hbt] at QC
        clear hbt
        obtain ⟨dv, hdb, hrow⟩ := HIW.out.row
        obtain ⟨da, dc, rfl⟩ := ownsRow_val hrow
        have HDB := Lib.hid hdb
        have HROW := Lib.hid hrow
        have d0 : wc.cell? ⟨db, 0, none⟩ = some (.slice da D.length dc) := mem_cell hdb 0
        clear hdb hrow
        obtain ⟨j0, hj, jz0, jz1, jz2⟩ := info_parts Tryd.infoPair
        obtain ⟨V, hV⟩ : ∃ V : World, wc.alloc (.cells #[.int .i64 (k : Int), .int .i64 (i : Int)] 80) = V := ⟨_, rfl⟩
        have HBV : Hid (Below wc.heap.size wc V) := by show Below _ _ _; rw [← hV]; exact mem_alloc _ _
        have HNV : Hid (V.heap[wc.heap.size]? = some (.cells #[.int .i64 (k : Int), .int .i64 (i : Int)] 80)) := by show _ = _; rw [← hV]; exact mem_new _ _
        have HSRC : Hid (Src V (some ⟨wc.heap.size, 0, none⟩) 1 2 (encP (pairKI k i))) := ⟨rfl, .inr ⟨_, rfl, fun j u hu => by
          rw [own_addr_add, Nat.zero_add, mem_cell HNV.out]
          simpa [encP, pairKI] using hu⟩⟩
        have HROV := Lib.hid (ownsRow_below HROW.out HBV.out)
        have HDV : Hid (V.heap[db]? = some (.cells #[.slice da D.length dc] 76)) := mem_keep HDB.out HBV.out
        have HNS : Hid (w0.heap.size ≤ V.heap.size) := Nat.le_trans HIW.out.bel.size HBV.out.size
        have hDl2 : D.length + 1 ≤ 1000001 := by omega
        go_wp2_with (first
          | (go_at_call 68; refine (QC _ HLW.out).mono ?_; rintro e w5 ⟨rfl, hw5⟩; have hw6 := hw5.symm; clear hw5; subst hw6)
          | (at_builtin; refine wpList_append_src _ rfl (.tmp 55) (.tmp 59) 76 rfl w0.heap.size 80 j0 _ 2 16 Tryd.underlying76 hj jz0 jz1 jz2 rfl (by decide) (.slice da D.length dc) D.length (D.flatMap encP) rfl HROV.out (some ⟨wc.heap.size, 0, none⟩) 1 1 (encP (pairKI k i)) rfl HSRC.out (by intro u hu; simp [encP] at hu; rcases hu with rfl | rfl <;> rfl) (by unfold maxLen; omega) (by omega) HNS.out ?_))
        intro v' w' r1 r2 _
        obtain ⟨va, vc, rfl⟩ := ownsRow_val r1
        obtain ⟨h8, h9⟩ := (HIW.out.keep HBV.out).push HDV.out HROV.out r1 r2
        have HF8 := Lib.hid h8
        have HF9 := Lib.hid (AboveP.after HBW.out (AboveP.after HBV.out h9))
        have hdb2 : w'.heap[db]? = some (.cells #[.slice da D.length dc] 76) := (r2.block db (lt_heap HDV.out) (fun e => ownsRow_ne HROV.out HDV.out (by decide) e.symm)).trans HDV.out
        have q0 : w'.cell? ⟨db, 0, none⟩ = some (.slice da D.length dc) := mem_cell hdb2 0
        have q1 : w'.frozen? ⟨db, 0, none⟩ = false := mem_free hdb2 0
        clear h8 h9 hdb2 r1 r2 hV d0
        go_wp2_with fail
        go_end0
        exact ⟨⟨_, rfl⟩, HZZ.out ▸ HF8.out, HF9.out⟩
end Go.Proofs.YteknhnnlhhgppaaDoor
