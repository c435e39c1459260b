/-
  Contract: after (package liveness), with the visitor of Interference.
-/
import Derived.Test.YteknhnnlhhgppaaDoorLiveVisit
namespace Go.Proofs.YteknhnnlhhgppaaDoor
set_option linter.unusedVariables false
set_option linter.unusedSimpArgs false
open Go.RowKit
set_option maxRecDepth 100000
set_option maxHeartbeats 16000000

/-- register c is live behind an instruction that defines a, seen already: before block k, or in it from the i-th on -/
def DefS (f : Fn) (outs : List Nat) (k i a c : Nat) : Prop :=
  ∃ (k' : Nat) (bl : Blk) (i' : Nat) (q : Ins), (k' < k ∨ (k' = k ∧ i ≤ i')) ∧ f.blocks[k']? = some bl ∧ bl.code[i']? = some q ∧ q.defines = some (a : Int) ∧ (blkB bl (i' + 1) (outs.getD k' 0)).testBit c = true
theorem defS_zero {f : Fn} {outs : List Nat} {a c : Nat} {b : Blk} (hb : f.blocks[0]? = some b) : ¬ DefS f outs 0 b.code.length a c := by
  rintro ⟨k', bl, i', q, h, h1, h2, _⟩
  rcases h with h | ⟨rfl, h⟩
  · omega
  · rw [hb] at h1
    obtain rfl := Option.some.inj h1
    have := (List.getElem?_eq_some_iff.1 h2).1
    omega
theorem defS_block {f : Fn} {outs : List Nat} {k a c : Nat} {b : Blk} (hb : f.blocks[k]? = some b) : DefS f outs k b.code.length a c ↔ ∃ (k' : Nat) (bl : Blk) (i' : Nat) (q : Ins), k' < k ∧ f.blocks[k']? = some bl ∧ bl.code[i']? = some q ∧ q.defines = some (a : Int) ∧ (blkB bl (i' + 1) (outs.getD k' 0)).testBit c = true := by
  constructor
  · rintro ⟨k', bl, i', q, h, h1, h2, h3⟩
    rcases h with h | ⟨rfl, h⟩
    · exact ⟨k', bl, i', q, h, h1, h2, h3⟩
    · rw [hb] at h1
      obtain rfl := Option.some.inj h1
      have := (List.getElem?_eq_some_iff.1 h2).1
      omega
  · rintro ⟨k', bl, i', q, h, h1, h2, h3⟩
    exact ⟨k', bl, i', q, .inl h, h1, h2, h3⟩
theorem defS_next {f : Fn} {outs : List Nat} {k a c : Nat} : DefS f outs k 0 a c ↔ ∃ (k' : Nat) (bl : Blk) (i' : Nat) (q : Ins), k' < k + 1 ∧ f.blocks[k']? = some bl ∧ bl.code[i']? = some q ∧ q.defines = some (a : Int) ∧ (blkB bl (i' + 1) (outs.getD k' 0)).testBit c = true := by
  constructor
  · rintro ⟨k', bl, i', q, h, h1, h2, h3⟩
    exact ⟨k', bl, i', q, by omega, h1, h2, h3⟩
  · rintro ⟨k', bl, i', q, h, h1, h2, h3⟩
    exact ⟨k', bl, i', q, by omega, h1, h2, h3⟩
theorem defS_step {f : Fn} {outs : List Nat} {k i a c : Nat} {b : Blk} {q : Ins} (hb : f.blocks[k]? = some b) (hq : b.code[i]? = some q) : DefS f outs k i a c ↔ DefS f outs k (i + 1) a c ∨ (q.defines = some (a : Int) ∧ (blkB b (i + 1) (outs.getD k 0)).testBit c = true) := by
  constructor
  · rintro ⟨k', bl, i', p, h, h1, h2, h3, h4⟩
    by_cases e : k' = k ∧ i' = i
    · obtain ⟨rfl, rfl⟩ := e
      rw [hb] at h1
      obtain rfl := Option.some.inj h1
      rw [hq] at h2
      obtain rfl := Option.some.inj h2
      exact .inr ⟨h3, h4⟩
    · exact .inl ⟨k', bl, i', p, by omega, h1, h2, h3, h4⟩
  · rintro (⟨k', bl, i', p, h, h1, h2, h3⟩ | ⟨h3, h4⟩)
    · exact ⟨k', bl, i', p, by omega, h1, h2, h3⟩
    · exact ⟨k, b, i, q, .inr ⟨rfl, Nat.le_refl _⟩, hb, hq, h3, h4⟩
/-- the rows' bits are what has been seen -/
def BitsAt (R : Nat) (P : Nat → Nat → Prop) (rows : List (Value × Nat)) : Prop := ∀ a c, a < R → ((rows.getD a (.bool false, 0)).2.testBit c = true ↔ P a c)
theorem meetB_bits {R s : Nat} {P : Nat → Nat → Prop} {q : Ins} {rows : List (Value × Nat)} (h : BitsAt R P rows) (hl : rows.length = R) (hq : InsR R q) : BitsAt R (fun a c => P a c ∨ (q.defines = some (a : Int) ∧ s.testBit c = true)) (meetB q s rows) := by
  intro a c ha
  unfold meetB
  cases hd : q.defines with
  | none =>
    rw [h a c ha]
    simp
  | some d =>
    have h0 := hq.dfn d hd
    simp only
    rw [getD_set]
    by_cases e : a = d.toNat
    · subst e
      rw [if_pos ⟨rfl, by omega⟩, Nat.testBit_or, Bool.or_eq_true, h _ _ ha]
      have e2 : some d = some ((d.toNat : Nat) : Int) := by rw [Int.toNat_of_nonneg h0.1]
      simp [e2]
    · rw [if_neg (fun e' => e e'.1), h a c ha]
      constructor
      · exact .inl
      · rintro (h5 | ⟨h5, _⟩)
        · exact h5
        · injection h5 with h5
          omega
theorem meetB_fst {s : Nat} {q : Ins} {rows : List (Value × Nat)} : (meetB q s rows).map (·.1) = rows.map (·.1) := by
  unfold meetB
  cases hd : q.defines with
  | none => rfl
  | some d =>
    simp only
    rw [List.map_set]
    by_cases h : d.toNat < rows.length
    · exact set_at_same (by rw [List.getElem?_map, List.getElem?_eq_getElem h, getD_at _ _ h]; rfl)
    · exact List.set_eq_of_length_le (by rw [List.length_map]; omega)
theorem SolSt.above {B R T : Nat} {w w' : World} {iv ov pv wv kv : Value} {ins outs : List (Value × Nat)} {prev : List (Value × List Nat)} {wait : List Bool} {work : List Nat} (h : SolSt B R w iv ov pv wv kv ins outs prev wait work) (hB : T ≤ B) (ha : Above T w w') : SolSt B R w' iv ov pv wv kv ins outs prev wait work :=
  have mv : ∀ {e : TypeId} {size n : Nat} {v : Value} {xs : List Value}, w.ownsRow B e size v n xs → w'.ownsRow B e size v n xs := fun h9 => ownsRow_move h9 fun k hk hlt => ha.2 k (Nat.le_trans hB (ownsRow_lt h9 hk).1) hlt
  { h with io := mv h.io, oo := mv h.oo, po := mv h.po, wo := mv h.wo, ko := mv h.ko, ii := fun p hp => ⟨mv (h.ii p hp).row, (h.ii p hp).lt, (h.ii p hp).few⟩, oi := fun p hp => ⟨mv (h.oi p hp).row, (h.oi p hp).lt, (h.oi p hp).few⟩, pi := fun p hp => mv (h.pi p hp) }
theorem SetV.above {B R T s : Nat} {w w' : World} {v : Value} (h : SetV B R w v s) (hB : T ≤ B) (ha : Above T w w') : SetV B R w' v s :=
  h.move fun _ hk hlt => ha.2 _ (Nat.le_trans hB (h.own hk).1) hlt
theorem above_heap {T b : Nat} {w w' : World} {o : Obj} (ha : Above T w w') (hb : T ≤ b) (h : w.heap[b]? = some o) : w'.heap[b]? = some o := (ha.2 b hb (lt_heap h)).trans h
def AfterEnd (f : Fn) (aa ba : Option Addr) (ac bc R n fb rb rg rc T : Nat) (w0 : World) (rows : List (Value × Nat)) (e : Ending) (w' : World) : Prop :=
  (∃ u, e = .returned u) ∧ ∃ ins outs rows', Sol f R ins outs ∧ IntSt f aa ba ac bc R n fb rb rg rc T w0 w' rows' ∧ rows'.map (·.1) = rows.map (·.1) ∧ BitsAt R (DefS f outs n 0) rows'
theorem after_any (f : Fn) (aa ba : Option Addr) (ac bc R n fb rb rg rc : Nat) (w0 w : World) (rows : List (Value × Nat)) (hf : FnAt w0 f aa ba) (hF : FormR f R) (hreg : f.regs = (R : Int)) (hn : f.blocks.length = n) (hbl : n ≤ 1000) (hcl : ∀ b ∈ f.blocks, b.code.length ≤ 1000000)
    (h : IntSt f aa ba ac bc R n fb rb rg rc w.heap.size w0 w rows) (hz : ∀ p ∈ rows, p.2 = 0) :
    Calls Tryd.prog 52 #[.agg #[.string f.name, .int .i64 (R : Int), .slice aa f.arrays.length ac, .slice ba n bc], .func (.func 53) #[] #[.pointer (some ⟨fb, 0, none⟩), .pointer (some ⟨rb, 0, none⟩)]] w
      (AfterEnd f aa ba ac bc R n fb rb rg rc w.heap.size w0 rows) := by
  have HI := Lib.hid h
  have HF := Lib.hid hf
  have HFR := Lib.hid hF
  have HCL := Lib.hid hcl
  have HN := Lib.hid hn
  have HZ0 := Lib.hid hz
  obtain ⟨T, hT⟩ : ∃ T, w.heap.size = T := ⟨_, rfl⟩
  obtain ⟨W, hW⟩ : ∃ W : World, w.alloc (.cells #[.string f.name, .int .i64 (R : Int), .slice aa f.arrays.length ac, .slice ba n bc] 25) = W := ⟨_, rfl⟩
  have hWs : W.heap.size = T + 1 := by rw [← hW, ← hT]; simp
  have HWS := Lib.hid hWs
  have HBW : Hid (Below T w W) := by show Below _ _ _; rw [← hW, ← hT]; exact (Below.refl _ _).alloc (Nat.le_refl _) _
  have HX : Hid (W.heap[T]? = some (.cells #[.string f.name, .int .i64 (R : Int), .slice aa f.arrays.length ac, .slice ba n bc] 25)) := by
    show _ = _
    rw [← hW, ← hT]
    exact (MapKept.heap_alloc w _).1
  have HI1 : Hid (IntSt f aa ba ac bc R n fb rb rg rc T w0 W rows) := by
    show IntSt _ _ _ _ _ _ _ _ _ _ _ _ _ _ _
    have h9 := HI.out
    rw [hT] at h9
    exact h9.keep HBW.out
  rw [hT]
  have QS : Hid (∀ w', Below w0.heap.size w0 w' → Calls Tryd.prog 41 #[.agg #[.string f.name, .int .i64 (R : Int), .slice aa f.arrays.length ac, .slice ba n bc]] w' (SolEnd f R w')) := fun w' h9 => by
    have h8 := solve_any f R aa ba ac bc w' (HF.out.below h9) HFR.out (by rw [HN.out]; omega) HCL.out
    rw [hreg, HN.out] at h8
    exact h8
  have x0 : W.cell? ⟨T, 0, none⟩ = some (.string f.name) := cell_heap HX.out 0
  have x1 : W.cell? ⟨T, 1, none⟩ = some (.int .i64 (R : Int)) := cell_heap HX.out 1
  have x2 : W.cell? ⟨T, 2, none⟩ = some (.slice aa f.arrays.length ac) := cell_heap HX.out 2
  have x3 : W.cell? ⟨T, 3, none⟩ = some (.slice ba n bc) := cell_heap HX.out 3
  clear h hf hF hcl hn hz hreg hWs
  go_enter Tryd.func52, Tryd.ntmps52
  go_wp2_with fail
  clear hW x0 x1 x2 x3
  refine (QS.out _ HI1.out.bel).mono ?_
  rintro e w1 ⟨siv, sov, spv, swv, skv, ins, outs, sprev, swait, swork, rfl, hst, hsol, hB⟩
  obtain ⟨iva, ivc, rfl⟩ := ownsRow_val hst.io
  obtain ⟨ova, ovc, rfl⟩ := ownsRow_val hst.oo
  have hil : ins.length = n := by have := hsol.li; rw [List.length_map, HN.out] at this; exact this
  have hol : outs.length = n := by have := hsol.lo; rw [List.length_map, HN.out] at this; exact this
  have hnp : 0 < n := by have := HFR.out.one; rw [HN.out] at this; exact this
  obtain ⟨ob, rfl, _⟩ := own_some hst.oo (by omega)
  have HST := Lib.hid hst
  have HSOL := Lib.hid hsol
  have HI2 := Lib.hid (HI1.out.keep (hB.mono HI1.out.t5))
  have HZ2 : Hid (w1.heap[T]? = some (.cells #[.string f.name, .int .i64 (R : Int), .slice aa f.arrays.length ac, .slice ba n bc] 25)) := (hB.block _ (lt_heap HX.out)).trans HX.out
  have HLL := Lib.hid (And.intro hil hol)
  obtain ⟨bs0, hb0⟩ : ∃ b, f.blocks[0]? = some b := ⟨_, List.getElem?_eq_getElem HFR.out.one⟩
  have HBITS0 : Hid (BitsAt R (fun a c => ∃ (k' : Nat) (bl : Blk) (i' : Nat) (q : Ins), k' < 0 ∧ f.blocks[k']? = some bl ∧ bl.code[i']? = some q ∧ q.defines = some (a : Int) ∧ (blkB bl (i' + 1) ((outs.map (·.2)).getD k' 0)).testBit c = true) rows) := fun a c ha => by
    have hr : rows.getD a (.bool false, 0) ∈ rows := by rw [getD_at _ _ (by rw [HI.out.len]; exact ha)]; exact List.getElem_mem _
    rw [HZ0.out _ hr]
    simp
  have x3 : w1.cell? ⟨T, 3, none⟩ = some (.slice ba n bc) := cell_heap HZ2.out 3
  have hn0 : (0 : Int) ≤ (n : Int) := by omega
  rw [hol]
  clear hst hsol hB hil hol hb0
  go_wp2_with fail
  clear x3
  go_loopw [18] (fun i wr => ∃ (j : Nat) (rows' : List (Value × Nat)), j ≤ n ∧ i = .int .i64 (j : Int) ∧ IntSt f aa ba ac bc R n fb rb rg rc T w0 wr rows' ∧ rows'.map (·.1) = rows.map (·.1) ∧ BitsAt R (fun a c => ∃ (k' : Nat) (bl : Blk) (i' : Nat) (q : Ins), k' < j ∧ f.blocks[k']? = some bl ∧ bl.code[i']? = some q ∧ q.defines = some (a : Int) ∧ (blkB bl (i' + 1) ((outs.map (·.2)).getD k' 0)).testBit c = true) rows' ∧ SolSt W.heap.size R wr (.slice iva ins.length ivc) (.slice (some ⟨ob, 0, none⟩) outs.length ovc) spv swv skv ins outs sprev swait swork ∧ wr.heap[T]? = some (.cells #[.string f.name, .int .i64 (R : Int), .slice aa f.arrays.length ac, .slice ba n bc] 25)) (fun i _ => n - (intOf i).toNat)
  case atStart => exact ⟨0, rows, Nat.zero_le _, rfl, HI2.out, rfl, HBITS0.out, HST.out, HZ2.out⟩
  case round =>
    obtain ⟨j, rows', hj, rfl, hint, hfst, hbits, hst, hz⟩ := hrel
    have HINT := Lib.hid hint
    have HFST := Lib.hid hfst
    have HBITS := Lib.hid hbits
    have HSTJ := Lib.hid hst
    have HZJ := Lib.hid hz
    have hj0 : (0 : Int) ≤ (j : Int) := by omega
    clear hint hfst hbits hst hz
    by_cases hlt : j < n
    · have hlt2 : (j : Int) < (n : Int) := by omega
      obtain ⟨b, hb⟩ : ∃ b, f.blocks[j]? = some b := ⟨_, List.getElem?_eq_getElem (by rw [HN.out]; exact hlt)⟩
      have HB := Lib.hid hb
      rcases HF.out.blocks.at_ with h0 | ⟨bb, off, rfl, hk⟩
      · have := HN.out; omega
      obtain ⟨ca, cc, hba, hcode⟩ := hk j b hb
      obtain ⟨c0, c1, c2, c3, c4⟩ := hba.below HINT.out.bel
      have HCODE := Lib.hid hcode
      have x3 : wr.cell? ⟨T, 3, none⟩ = some (.slice (some ⟨bb, off, none⟩) n bc) := cell_heap HZJ.out 3
      obtain ⟨V1, hV1⟩ : ∃ V1 : World, wr.alloc (.cells #[.slice ca b.code.length cc, .int .u8 b.kind, .int .i64 b.x, .int .i64 b.to, .int .i64 b.els] 43) = V1 := ⟨_, rfl⟩
      have HBV1 : Hid (Below wr.heap.size wr V1) := by show Below _ _ _; rw [← hV1]; exact (Below.refl _ _).alloc (Nat.le_refl _) _
      have HZ1 : Hid (V1.heap[wr.heap.size]? = some (.cells #[.slice ca b.code.length cc, .int .u8 b.kind, .int .i64 b.x, .int .i64 b.to, .int .i64 b.els] 43)) := by
        show _ = _
        rw [← hV1]
        exact (MapKept.heap_alloc wr _).1
      have HSV1 := Lib.hid (HSTJ.out.keep HBV1.out)
      have HBRK := Lib.hid (HFR.out.blk b (List.mem_of_getElem? hb))
      obtain ⟨vo, hvo⟩ : ∃ vo, outs[j]? = some vo := ⟨_, List.getElem?_eq_getElem (by have := HLL.out; omega)⟩
      obtain ⟨vx, ox⟩ := vo
      have HVO := Lib.hid hvo
      have hvs := HSV1.out.oi _ (List.mem_of_getElem? hvo)
      have HVS := Lib.hid hvs
      obtain ⟨vxa, vxc, e9⟩ := ownsRow_val hvs.row
      simp only at e9
      subst e9
      obtain ⟨o0, _, _⟩ := HSV1.out.cellOutA rfl hvo
      simp only at o0
      obtain ⟨d0, d1, d2, d3, d4⟩ := five_cells HZ1.out
      have hcl1 := HCL.out b (List.mem_of_getElem? hb)
      have hcl0 : (0 : Int) ≤ (b.code.length : Int) := by omega
      clear hk hba hcode hb hvo hvs
      go_wp2_with fail
      go_still_tail 5, (by kernel_rfl)
      change wpList _ _ _ _ _ V1.drew
      clear hV1
      go_wp2_with fail
      clear c0 c1 c2 c3 c4 d0 d1 d2 d3 d4 x3 o0
      refine (last_any b ca cc _ HVS.out.drew HBRK.out.fin).mono ?_
      rintro e w5 ⟨sv, rfl, hL, hB⟩
      have hL1 : SetV V1.heap.size R w5 sv (lastB b ox) := hL
      have hB1 : Below V1.heap.size V1 w5 := ((Below.refl _ _).drew).trans hB
      have HV5 : Hid (V1.heap.size ≤ w5.heap.size) := hB1.size
      have HTV : Hid (T ≤ V1.heap.size) := Nat.le_trans HINT.out.t5 HBV1.out.size
      have HSB := Lib.hid (HSV1.out.keep hB1)
      have HFRE := Lib.hid (HSV1.out.fresh hL1)
      have HIB := Lib.hid ((HINT.out.keep (HBV1.out.mono HINT.out.t5)).keep (hB1.mono HTV.out))
      have HZB : Hid (w5.heap[wr.heap.size]? = some (.cells #[.slice ca b.code.length cc, .int .u8 b.kind, .int .i64 b.x, .int .i64 b.to, .int .i64 b.els] 43)) := (hB1.block _ (lt_heap HZ1.out)).trans HZ1.out
      have HZT : Hid (w5.heap[T]? = some (.cells #[.string f.name, .int .i64 (R : Int), .slice aa f.arrays.length ac, .slice (some ⟨bb, off, none⟩) n bc] 25)) := by
        have h8 := (HBV1.out.block _ (lt_heap HZJ.out)).trans HZJ.out
        exact (hB1.block _ (lt_heap h8)).trans h8
      obtain ⟨sva, svc, rfl⟩ := ownsRow_val hL1.row
      have HLB : Hid (SetV V1.heap.size R w5 (.slice sva (nw R) svc) (blkB b b.code.length ox)) := by
        show SetV _ _ _ _ _
        rw [blkB_end]
        exact hL1
      have HOX : Hid ((outs.map (·.2)).getD j 0 = ox) := by
        show _ = _
        rw [List.getD_eq_getElem?_getD, List.getElem?_map, HVO.out]
        rfl
      have HBB : Hid (BitsAt R (DefS f (outs.map (·.2)) j b.code.length) rows') := fun a c ha => (HBITS.out a c ha).trans (defS_block HB.out).symm
      obtain ⟨d0, d1, d2, d3, d4⟩ := five_cells HZB.out
      clear hL hL1 hB hB1
      go_wp2_with fail
      clear d0 d1 d2 d3 d4
      obtain ⟨wq, rfl⟩ : ∃ wq : World, wq = wr := ⟨_, rfl⟩
      go_loopw [9] (fun i wi => ∃ (m : Nat) (rows2 : List (Value × Nat)), m ≤ b.code.length ∧ i = .int .i64 ((m : Int) - 1) ∧ IntSt f aa (some ⟨bb, off, none⟩) ac bc R n fb rb rg rc T w0 wi rows2 ∧ rows2.map (·.1) = rows.map (·.1) ∧ BitsAt R (DefS f (outs.map (·.2)) j m) rows2 ∧ SolSt W.heap.size R wi (.slice iva ins.length ivc) (.slice (some ⟨ob, 0, none⟩) outs.length ovc) spv swv skv ins outs sprev swait swork ∧ SetV V1.heap.size R wi (.slice sva (nw R) svc) (blkB b m ox) ∧ wi.heap[wq.heap.size]? = some (.cells #[.slice ca b.code.length cc, .int .u8 b.kind, .int .i64 b.x, .int .i64 b.to, .int .i64 b.els] 43) ∧ wi.heap[T]? = some (.cells #[.string f.name, .int .i64 (R : Int), .slice aa f.arrays.length ac, .slice (some ⟨bb, off, none⟩) n bc] 25) ∧ V1.heap.size ≤ wi.heap.size) (fun i _ => (intOf i + 1).toNat)
      case atStart => exact ⟨b.code.length, rows', Nat.le_refl _, rfl, HIB.out, HFST.out, HBB.out, HSB.out, HLB.out, HZB.out, HZT.out, HV5.out⟩
      case round =>
        obtain ⟨m, rows2, hm, rfl, hi2, hf2, hb2, hs2, hl2, hz2, ht2, hv2⟩ := hrel
        have HI3 := Lib.hid hi2
        have HF3 := Lib.hid hf2
        have HB3 := Lib.hid hb2
        have HS3 := Lib.hid hs2
        have HL3 := Lib.hid hl2
        have HZ3 := Lib.hid hz2
        have HT3 := Lib.hid ht2
        have HV3 := Lib.hid hv2
        clear hi2 hf2 hb2 hs2 hl2 hz2 ht2 hv2
        rcases Nat.eq_zero_or_pos m with rfl | hmp
        · have e0 : ((0 : Nat) : Int) - 1 = -1 := by omega
          rw [e0]
          clear e0
          have HBN : Hid (BitsAt R (fun a c => ∃ (k' : Nat) (bl : Blk) (i' : Nat) (q : Ins), k' < j + 1 ∧ f.blocks[k']? = some bl ∧ bl.code[i']? = some q ∧ q.defines = some (a : Int) ∧ (blkB bl (i' + 1) ((outs.map (fun p : Value × Nat => p.2)).getD k' 0)).testBit c = true) rows2) := fun a c ha => (HB3.out a c ha).trans defS_next
          go_wp2_with fail
          exact ⟨⟨j + 1, rows2, by omega, by go_num, HI3.out, HF3.out, HBN.out, HS3.out, HT3.out⟩, by simp [intOf]; omega⟩
        · obtain ⟨m', rfl⟩ : ∃ m', m = m' + 1 := ⟨m - 1, by omega⟩
          have e0 : ((m' + 1 : Nat) : Int) - 1 = (m' : Int) := by omega
          rw [e0]
          have hm0 : (0 : Int) ≤ (m' : Int) := by omega
          have hm1 : m' < b.code.length := by omega
          have hm2 : (m' : Int) < (b.code.length : Int) := by omega
          obtain ⟨q, hq⟩ : ∃ q, b.code[m']? = some q := ⟨_, List.getElem?_eq_getElem hm1⟩
          have HQ := Lib.hid hq
          have HQR := Lib.hid (HBRK.out.ins q (List.mem_of_getElem? hq)).2.2
          clear e0 hq hmp
          go_wp2_with fail
          refine (visit_any f aa (some ⟨bb, off, none⟩) ac bc R n fb rb rg rc T V1.heap.size (blkB b (m' + 1) ox) j m' b q _ w0 _ rows2 HF.out HN.out HI3.out HL3.out HTV.out HB.out HQ.out HQR.out).mono ?_
          rintro e w6 ⟨⟨u6, rfl⟩, hI6, hA6⟩
          have HI6 := Lib.hid hI6
          have HF6 : Hid ((meetB q (blkB b (m' + 1) ox) rows2).map (·.1) = rows.map (·.1)) := meetB_fst.trans HF3.out
          have HB6 : Hid (BitsAt R (DefS f (outs.map (·.2)) j m') (meetB q (blkB b (m' + 1) ox) rows2)) := fun a c ha => by
            rw [meetB_bits HB3.out HI3.out.len HQR.out a c ha, defS_step HB.out HQ.out, HOX.out]
          have HS6 := Lib.hid (HS3.out.above (by have := HWS.out; omega) hA6)
          have HL6 := Lib.hid (HL3.out.above HTV.out hA6)
          have HZ6 := Lib.hid (above_heap hA6 HINT.out.t5 HZ3.out)
          have HT6 := Lib.hid (above_heap hA6 (Nat.le_refl _) HT3.out)
          have HV6 : Hid (V1.heap.size ≤ w6.heap.size) := Nat.le_trans HV3.out hA6.1
          rcases HCODE.out.at_ with h0 | ⟨cb, co, rfl, hcc⟩
          · omega
          obtain ⟨c0, c1, c2, c3, c4, c5⟩ := (hcc m' q HQ.out).below HI6.out.bel
          obtain ⟨d0, d1, d2, d3, d4⟩ := five_cells HZ6.out
          clear hI6 hA6 hcc
          go_wp2_with fail
          clear c0 c1 c2 c3 c4 c5 d0 d1 d2 d3 d4
          refine (back_any q _ HL6.out HQR.out HV6.out).mono ?_
          rintro e w7 ⟨⟨u7, rfl⟩, hA, hTu⟩
          have HL7 : Hid (SetV V1.heap.size R w7 (.slice sva (nw R) svc) (blkB b m' ox)) := by
            show SetV _ _ _ _ _
            rw [blkB_step HQ.out]
            exact hA
          have HS7 := Lib.hid (HS6.out.turnSet HL6.out HFRE.out.1 HFRE.out.2 hTu)
          have HI7 := Lib.hid (HI6.out.keep (hTu.below HI6.out.t5 (fun k hk => Nat.le_trans HTV.out (HL6.out.own hk).1)))
          have HZ7 := Lib.hid (block_other HL6.out.row HZ6.out (by decide) hTu)
          have HT7 := Lib.hid (block_other HL6.out.row HT6.out (by decide) hTu)
          have HV7 : Hid (V1.heap.size ≤ w7.heap.size) := Nat.le_trans HV6.out hTu.size
          clear hA hTu
          go_wp2_with fail
          exact ⟨⟨m', _, by omega, rfl, HI7.out, HF6.out, HB6.out, HS7.out, HL7.out, HZ7.out, HT7.out, HV7.out⟩, by simp [intOf]⟩
    · obtain rfl : j = n := by omega
      have HBF : Hid (BitsAt R (DefS f (outs.map (fun p : Value × Nat => p.2)) j 0) rows') := fun a c ha => (HBITS.out a c ha).trans (by
        rw [defS_next]
        constructor
        · rintro ⟨k', bl, i', q, h, h1, h2⟩
          exact ⟨k', bl, i', q, by omega, h1, h2⟩
        · rintro ⟨k', bl, i', q, h, h1, h2⟩
          have := (List.getElem?_eq_some_iff.1 h1).1
          have := HN.out
          exact ⟨k', bl, i', q, by omega, h1, h2⟩)
      go_wp2_with fail
      go_end0
      exact ⟨⟨_, rfl⟩, _, _, _, HSOL.out, HINT.out, HFST.out, HBF.out⟩
end Go.Proofs.YteknhnnlhhgppaaDoor
