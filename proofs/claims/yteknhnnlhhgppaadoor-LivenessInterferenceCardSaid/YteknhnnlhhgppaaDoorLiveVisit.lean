/-
  Contracts: the visitor of Interference, and after with it (package liveness).
-/
import Derived.Test.YteknhnnlhhgppaaDoorLiveOf
namespace Go.Proofs.YteknhnnlhhgppaaDoor
set_option linter.unusedVariables false
set_option linter.unusedSimpArgs false
open Go.RowKit
set_option maxRecDepth 100000
set_option maxHeartbeats 16000000

/-- a row of sets of the call's own -/
structure SetRow (B R : Nat) (w : World) (v : Value) (rows : List (Value × Nat)) : Prop where
  ro : w.ownsRow B 86 1 v rows.length (rows.map (·.1))
  si : ∀ p ∈ rows, SetV B R w p.1 p.2
  ap : ∀ (i j : Nat) (p q : Value × Nat), i ≠ j → rows[i]? = some p → rows[j]? = some q → Apart p.1 q.1
section
variable {B R : Nat} {w w' : World} {v : Value} {rows : List (Value × Nat)}
theorem SetRow.keep (h : SetRow B R w v rows) (hB : Below w.heap.size w w') : SetRow B R w' v rows := ⟨ownsRow_below h.ro hB, fun p hp => (h.si p hp).keep hB, h.ap⟩
theorem SetRow.move {T : Nat} (h : SetRow B R w v rows) (h1 : ∀ k, v.ownBlock = some k → k < T) (h2 : ∀ p ∈ rows, ∀ k, p.1.ownBlock = some k → k < T) (hB : Below T w w') : SetRow B R w' v rows :=
  ⟨ownsRow_move h.ro (fun k hk _ => hB.block k (h1 k hk)), fun p hp => (h.si p hp).move (fun k hk _ => hB.block k (h2 p hp k hk)), h.ap⟩
theorem SetRow.cell {k g n c : Nat} {p : Value × Nat} (h : SetRow B R w (.slice (some ⟨g, 0, none⟩) n c) rows) (hn : n = rows.length) (hk : rows[k]? = some p) : w.cell? ⟨g, k, none⟩ = some p.1 ∧ w.frozen? ⟨g, k, none⟩ = false ∧ g < w.heap.size := by
  subst hn
  exact ⟨own_cell h.ro (by rw [List.getElem?_map, hk]; rfl), row_free h.ro k, (ownsRow_lt h.ro rfl).2⟩
/-- one of the sets turns -/
theorem SetRow.turn {i s s' : Nat} {u : Value} (h : SetRow B R w v rows) (hi : rows[i]? = some (u, s)) (ht : Turn u w w') (hn : SetV B R w' u s') : SetRow B R w' v (rows.set i (u, s')) := by
  have hm := List.mem_of_getElem? hi
  have hr := (h.si _ hm).row
  have hil := (List.getElem?_eq_some_iff.1 hi).1
  have hget : ∀ (j : Nat) (p : Value × Nat), (rows.set i (u, s'))[j]? = some p → ∃ q, rows[j]? = some q ∧ q.1 = p.1 ∧ ((j = i ∧ p = (u, s')) ∨ (j ≠ i ∧ p = q)) := fun j p hj => by
    by_cases e : j = i
    · subst e
      rw [List.getElem?_set_self hil] at hj
      obtain rfl := Option.some.inj hj
      exact ⟨_, hi, rfl, .inl ⟨rfl, rfl⟩⟩
    · rw [List.getElem?_set_ne (fun e' => e e'.symm)] at hj
      exact ⟨p, hj, rfl, .inr ⟨e, rfl⟩⟩
  refine ⟨?_, fun p hp => ?_, fun a b p q hab h1 h2 => ?_⟩
  · have e : (rows.set i (u, s')).map (·.1) = rows.map (·.1) := by
      rw [List.map_set]
      exact set_at_same (by rw [List.getElem?_map, hi]; rfl)
    rw [e, List.length_set]
    exact row_other h.ro hr (by decide) ht
  · obtain ⟨j, hj⟩ := List.getElem?_of_mem hp
    obtain ⟨q, h1, _, (⟨_, rfl⟩ | ⟨h3, rfl⟩)⟩ := hget j p hj
    · exact hn
    · exact (h.si p (List.mem_of_getElem? h1)).apart (h.ap j i p (u, s) h3 h1 hi) ht
  · obtain ⟨r1, g1, e1, _⟩ := hget a p h1
    obtain ⟨r2, g2, e2, _⟩ := hget b q h2
    rw [← e1, ← e2]
    exact h.ap a b r1 r2 hab g1 g2
/-- rows[i] = u, a set apart -/
theorem SetRow.put {g n c i s : Nat} {u : Value} (h : SetRow B R w (.slice (some ⟨g, 0, none⟩) n c) rows) (hnn : n = rows.length) (hi : i < rows.length) (hu : SetV B R w u s) (hne : ∀ q ∈ rows, Apart q.1 u) :
    SetRow B R (w.setCell ⟨g, i, none⟩ u) (.slice (some ⟨g, 0, none⟩) n c) (rows.set i (u, s)) := by
  subst hnn
  have ht : Turn (.slice (some ⟨g, 0, none⟩) rows.length c) w (w.setCell ⟨g, i, none⟩ u) := Turn.set
  have hget : ∀ (j : Nat) (p : Value × Nat), (rows.set i (u, s))[j]? = some p → (j = i ∧ p = (u, s)) ∨ (j ≠ i ∧ rows[j]? = some p) := fun j p hj => by
    by_cases e : j = i
    · subst e
      rw [List.getElem?_set_self hi] at hj
      exact .inl ⟨rfl, (Option.some.inj hj).symm⟩
    · rw [List.getElem?_set_ne (fun e' => e e'.symm)] at hj
      exact .inr ⟨e, hj⟩
  refine ⟨?_, fun p hp => ?_, fun a b p q hab h1 h2 => ?_⟩
  · have := ownsRow_set (j := i) (u := u) h.ro (by omega)
    rw [List.length_set, List.map_set]
    exact this
  · rcases List.mem_or_eq_of_mem_set hp with hp | rfl
    · exact (h.si p hp).other h.ro (by decide) ht
    · exact hu.other h.ro (by decide) ht
  · rcases hget a p h1 with ⟨rfl, rfl⟩ | ⟨h3, h4⟩ <;> rcases hget b q h2 with ⟨rfl, rfl⟩ | ⟨h5, h6⟩
    · exact absurd rfl hab
    · exact (hne q (List.mem_of_getElem? h6)).symm
    · exact hne p (List.mem_of_getElem? h4)
    · exact h.ap a b p q hab h4 h6
end
/-- Interference, before and in after: T bounds its blocks -/
structure IntSt (f : Fn) (aa ba : Option Addr) (ac bc : Nat) (R n fb rb rg rc : Nat) (T : Nat) (w0 w : World) (rows : List (Value × Nat)) : Prop where
  fbox : w.heap[fb]? = some (.cells #[.string f.name, .int .i64 (R : Int), .slice aa f.arrays.length ac, .slice ba n bc] 25)
  rbox : w.heap[rb]? = some (.cells #[.slice (some ⟨rg, 0, none⟩) R rc] 82)
  row : SetRow w0.heap.size R w (.slice (some ⟨rg, 0, none⟩) R rc) rows
  len : rows.length = R
  bel : Below w0.heap.size w0 w
  t1 : fb < T
  t2 : rb < T
  t3 : rg < T
  t4 : ∀ p ∈ rows, ∀ k, p.1.ownBlock = some k → k < T
  t5 : T ≤ w.heap.size
  t6 : w0.heap.size ≤ T
section
variable {f : Fn} {aa ba : Option Addr} {ac bc R n fb rb rg rc T : Nat} {w0 w w' : World} {rows : List (Value × Nat)}
theorem IntSt.keep (h : IntSt f aa ba ac bc R n fb rb rg rc T w0 w rows) (hB : Below T w w') : IntSt f aa ba ac bc R n fb rb rg rc T w0 w' rows := by
  have h3 : ∀ k, (Value.slice (some ⟨rg, 0, none⟩) R rc).ownBlock = some k → k < T := fun k hk => by
    have e : rg = k := by simpa [Value.ownBlock] using hk
    have := h.t3
    omega
  exact { h with fbox := (hB.block _ h.t1).trans h.fbox, rbox := (hB.block _ h.t2).trans h.rbox, row := h.row.move h3 h.t4 hB, bel := h.bel.trans (hB.mono h.t6), t5 := Nat.le_trans h.t5 hB.size }
theorem IntSt.turn {i s s' : Nat} {u : Value} (h : IntSt f aa ba ac bc R n fb rb rg rc T w0 w rows) (hi : rows[i]? = some (u, s)) (ht : Turn u w w') (hn : SetV w0.heap.size R w' u s') : IntSt f aa ba ac bc R n fb rb rg rc T w0 w' (rows.set i (u, s')) := by
  have hr := (h.row.si _ (List.mem_of_getElem? hi)).row
  have h4 : ∀ p ∈ rows.set i (u, s'), ∀ k, p.1.ownBlock = some k → k < T := fun p hp => by
    rcases List.mem_or_eq_of_mem_set hp with hp | rfl
    · exact h.t4 p hp
    · exact fun k hk => h.t4 (u, s) (List.mem_of_getElem? hi) k hk
  exact { h with fbox := block_other hr h.fbox (by decide) ht, rbox := block_other hr h.rbox (by decide) ht, row := h.row.turn hi ht hn, len := by rw [List.length_set]; exact h.len, bel := h.bel.trans (ht.below h.bel.size (fun k hk => (ownsRow_lt hr hk).1)), t4 := h4, t5 := Nat.le_trans h.t5 ht.size }
end
/-- the rows behind an instruction -/
def meetB (q : Ins) (s : Nat) (rows : List (Value × Nat)) : List (Value × Nat) :=
  match q.defines with
  | some d => rows.set d.toNat ((rows.getD d.toNat (.bool false, 0)).1, (rows.getD d.toNat (.bool false, 0)).2 ||| s)
  | none => rows
/-- what lies from T on stays -/
def Above (T : Nat) (w w' : World) : Prop := w.heap.size ≤ w'.heap.size ∧ ∀ k, T ≤ k → k < w.heap.size → w'.heap[k]? = w.heap[k]?
theorem visit_any (f : Fn) (aa ba : Option Addr) (ac bc R n fb rb rg rc T C s k i : Nat) (b : Blk) (q : Ins) (lv : Value) (w0 w : World) (rows : List (Value × Nat)) (hf : FnAt w0 f aa ba) (hn : f.blocks.length = n)
    (h : IntSt f aa ba ac bc R n fb rb rg rc T w0 w rows) (hl : SetV C R w lv s) (hC : T ≤ C) (hb : f.blocks[k]? = some b) (hq : b.code[i]? = some q) (hqr : InsR R q) :
    Calls Tryd.prog 53 #[.int .i64 (k : Int), .int .i64 (i : Int), lv, .pointer (some ⟨fb, 0, none⟩), .pointer (some ⟨rb, 0, none⟩)] w
      fun e w' => (∃ u, e = .returned u) ∧ IntSt f aa ba ac bc R n fb rb rg rc T w0 w' (meetB q s rows) ∧ Above T w w' := by
  have HI := Lib.hid h
  have HLV := Lib.hid hl
  have HQR := Lib.hid hqr
  have hkn : k < n := by have := (List.getElem?_eq_some_iff.1 hb).1; omega
  have hil := (List.getElem?_eq_some_iff.1 hq).1
  rcases hf.blocks.at_ with hz | ⟨bb, off, rfl, hk⟩
  · omega
  obtain ⟨ca, cc, hba, hcode⟩ := hk k b hb
  obtain ⟨c0, c1, c2, c3, c4⟩ := hba.below h.bel
  rcases hcode.at_ with hz | ⟨cb, co, rfl, hcc⟩
  · omega
  obtain ⟨g0, g1, g2, g3, g4, g5⟩ := (hcc i q hq).below h.bel
  have x3 : w.cell? ⟨fb, 3, none⟩ = some (.slice (some ⟨bb, off, none⟩) n bc) := cell_heap h.fbox 3
  have hk0 : (0 : Int) ≤ (k : Int) := by omega
  have hk1 : (k : Int) < (n : Int) := by omega
  have hi0 : (0 : Int) ≤ (i : Int) := by omega
  have hi1 : (i : Int) < (b.code.length : Int) := by omega
  obtain ⟨la, lc, rfl⟩ := ownsRow_val hl.row
  clear h hl hqr hk hba hcode hcc hb hq
  go_enter Tryd.func53, Tryd.ntmps53
  go_wp2_with fail
  clear x3 c0 c1 c2 c3 c4 g0 g1 g2 g3 g4 g5
  refine (defines_any q _).mono ?_
  unfold DefOk
  rintro e w1 ⟨rfl, hB1⟩
  have HI1 := Lib.hid (HI.out.keep (hB1.mono HI.out.t5))
  have HL1 := Lib.hid (HLV.out.keep hB1)
  have HB1 := Lib.hid hB1
  have r0 : w1.cell? ⟨rb, 0, none⟩ = some (.slice (some ⟨rg, 0, none⟩) R rc) := cell_heap HI1.out.rbox 0
  obtain ⟨K, hK⟩ : ∃ K : Option Int, q.defines = K := ⟨_, rfl⟩
  rw [hK]
  have HD := Lib.hid hK
  clear hB1
  cases K with
  | none =>
    have HM : Hid (meetB q s rows = rows) := by show _ = _; unfold meetB; rw [hK]
    simp only [Option.getD_none, Option.isSome_none]
    clear hK
    go_wp2_with fail
    go_end0
    exact ⟨⟨_, rfl⟩, by rw [HM.out]; exact HI1.out, HB1.out.size, fun k _ hlt => HB1.out.block k hlt⟩
  | some d =>
    obtain ⟨hd0, hd1⟩ := HQR.out.dfn d hK
    obtain ⟨r, rfl⟩ : ∃ r : Nat, d = (r : Int) := ⟨d.toNat, by omega⟩
    have hr1 : r < R := by omega
    obtain ⟨p, hp⟩ : ∃ p, rows[r]? = some p := ⟨_, List.getElem?_eq_getElem (by rw [HI.out.len]; exact hr1)⟩
    obtain ⟨u, t⟩ := p
    have HP := Lib.hid hp
    obtain ⟨p0, _, _⟩ := HI1.out.row.cell HI.out.len.symm hp
    have hu := HI1.out.row.si _ (List.mem_of_getElem? hp)
    obtain ⟨ua, uc, e9⟩ := ownsRow_val hu.row
    simp only at e9
    subst e9
    simp only at p0
    have HU := Lib.hid hu
    have HM : Hid (meetB q s rows = rows.set r (.slice ua (nw R) uc, t ||| s)) := by
      show _ = _
      unfold meetB
      rw [hK]
      simp only [Int.toNat_natCast]
      rw [List.getD_eq_getElem?_getD, hp]
      rfl
    have HAP : Hid (Apart (.slice ua (nw R) uc) (.slice la (nw R) lc)) := apart_lt (N := T) (fun z hz => HI.out.t4 _ (List.mem_of_getElem? hp) z hz) (fun z hz => Nat.le_trans hC (HLV.out.own hz).1)
    simp only [Option.getD_some, Option.isSome_some]
    clear hK hp hu
    go_wp2_with fail
    refine (join_any _ HU.out HL1.out HAP.out).mono ?_
    rintro e w2 ⟨⟨u2, rfl⟩, hA, hT⟩
    have HI2 := Lib.hid (HI1.out.turn HP.out hT hA)
    have HAB : Hid (Above T w w2) := ⟨Nat.le_trans HB1.out.size hT.size, fun z hz hlt => (hT.block z (Nat.lt_of_lt_of_le hlt HB1.out.size) (fun e => by have := HI.out.t4 _ (List.mem_of_getElem? HP.out) z e; omega)).trans (HB1.out.block z hlt)⟩
    clear hA hT
    go_wp2_with fail
    go_end0
    exact ⟨⟨_, rfl⟩, by rw [HM.out]; exact HI2.out, HAB.out⟩
end Go.Proofs.YteknhnnlhhgppaaDoor
