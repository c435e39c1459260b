/-
  Two registers that do not interfere share one place (layer 19), plainly: the run is the same. No program is named here.
-/
import Derived.Test.YteknhnnlhhgppaaDoorLiveWork
namespace Go.Proofs.YteknhnnlhhgppaaDoor
set_option linter.unusedVariables false
set_option linter.unusedSimpArgs false
open Go.RowKit
set_option maxRecDepth 100000

/-- b is replaced by a -/
def thR (a b r : Int) : Int := if r = b then a else r
def turnI (a b : Int) (i : Ins) : Ins := { i with dst := if i.defines.isSome then thR a b i.dst else i.dst, x := if 0 < i.uses.length then thR a b i.x else i.x, y := if 1 < i.uses.length then thR a b i.y else i.y }
def turnBlk (a b : Int) (q : Blk) : Blk := { q with code := q.code.map (turnI a b), x := if q.kind = 2 then thR a b q.x else q.x }
def turnFn (a b : Int) (f : Fn) : Fn := { f with blocks := f.blocks.map (turnBlk a b) }
/-- two states that agree on the live registers -/
structure RelS (a b : Int) (R : Nat) (L : Nat) (s s' : St) : Prop where
  cnt : s'.cnt = s.cnt
  mem : s'.mem = s.mem
  locked : s'.locked = s.locked
  held : s'.held = s.held
  out : s'.out = s.out
  read : s'.read = s.read
  len : s.regs.length = R
  len' : s'.regs.length = R
  reg : ∀ r : Nat, r < R → L.testBit r = true → s'.reg (thR a b (r : Int)) = s.reg (r : Int)
section
variable {a b : Int} {R L : Nat} {s s' : St} {names : List ByteArray} {inp : List Int}
theorem thR_in (ha : 0 ≤ a ∧ a < (R : Int)) {r : Int} (hr : 0 ≤ r ∧ r < (R : Int)) : 0 ≤ thR a b r ∧ thR a b r < (R : Int) := by
  unfold thR; split <;> assumption
theorem RelS.sub {L' : Nat} (h : RelS a b R L s s') (hs : ∀ r, r < R → L'.testBit r = true → L.testBit r = true) : RelS a b R L' s s' := ⟨h.cnt, h.mem, h.locked, h.held, h.out, h.read, h.len, h.len', fun r hr hl => h.reg r hr (hs r hr hl)⟩
theorem RelS.use (h : RelS a b R L s s') {u : Int} (hu : 0 ≤ u ∧ u < (R : Int)) (hl : L.testBit u.toNat = true) : s'.reg (thR a b u) = s.reg u := by
  have := h.reg u.toNat (by omega) hl
  rwa [Int.toNat_of_nonneg hu.1] at this
theorem reg_set {s : St} {d v r : Int} (hd : 0 ≤ d ∧ d < (s.regs.length : Int)) (hr : 0 ≤ r) : (s.setReg d v).reg r = if r = d then v else s.reg r := by
  unfold St.setReg St.reg
  by_cases e : r = d
  · subst e
    rw [if_pos rfl, List.getD_eq_getElem?_getD, List.getElem?_set_self (by omega)]; rfl
  · rw [if_neg e, List.getD_eq_getElem?_getD, List.getElem?_set_ne (by omega), ← List.getD_eq_getElem?_getD]
/-- a register is defined -/
theorem RelS.def_ (h : RelS a b R L s s') (hth : ∀ r : Int, 0 ≤ r ∧ r < (R : Int) → 0 ≤ thR a b r ∧ thR a b r < (R : Int)) {L' : Nat} {d v : Int} (hd : 0 ≤ d ∧ d < (R : Int)) (hk : ∀ r, r < R → L'.testBit r = true → (r : Int) ≠ d → L.testBit r = true) (hno : ∀ r : Nat, r < R → L'.testBit r = true → (r : Int) ≠ d → thR a b (r : Int) ≠ thR a b d) :
    RelS a b R L' (s.setReg d v) (s'.setReg (thR a b d) v) := by
  have hd' := hth d hd
  refine ⟨h.cnt, h.mem, h.locked, h.held, h.out, h.read, by show (s.regs.set _ _).length = _; rw [List.length_set]; exact h.len, by show (s'.regs.set _ _).length = _; rw [List.length_set]; exact h.len', fun r hr hl => ?_⟩
  have hr' := hth (r : Int) ⟨by omega, by omega⟩
  rw [reg_set (by rw [h.len']; exact hd') hr'.1, reg_set (by rw [h.len]; exact hd) (by omega)]
  by_cases e : (r : Int) = d
  · rw [if_pos e, if_pos (by rw [e])]
  · rw [if_neg e, if_neg (hno r hr hl e)]
    exact h.reg r hr (hk r hr hl e)
/-- how two steps compare -/
def StepRel (a b : Int) (R L : Nat) : Except Int St → Except Int St → Prop
  | .error e, .error e' => e' = e
  | .ok s, .ok s' => RelS a b R L s s'
  | _, _ => False
theorem StepRel.ite {c c' : Prop} [Decidable c] [Decidable c'] {x y x' y' : Except Int St} (hc : c' ↔ c) (h1 : c → StepRel a b R L x x') (h2 : ¬ c → StepRel a b R L y y') : StepRel a b R L (if c then x else y) (if c' then x' else y') := by
  by_cases h : c
  · rw [if_pos h, if_pos (hc.2 h)]; exact h1 h
  · rw [if_neg h, if_neg (fun h' => h (hc.1 h'))]; exact h2 h
theorem step_turn (hth : ∀ r : Int, 0 ≤ r ∧ r < (R : Int) → 0 ≤ thR a b r ∧ thR a b r < (R : Int)) (hR : R ≤ 12) {i : Ins} {L' : Nat} (hi : InsR R i) (hL' : L' < 2 ^ R) (h : RelS a b R (backB i L') s s') (hop : 1 ≤ i.op ∧ i.op ≤ 16)
    (hno : ∀ d, i.defines = some d → ∀ r : Nat, r < R → L'.testBit r = true → (r : Int) ≠ d → thR a b (r : Int) ≠ thR a b d) :
    StepRel a b R L' (step names inp i s) (step names inp (turnI a b i) s') := by
  have hu : ∀ u ∈ i.uses, s'.reg (thR a b u) = s.reg u := fun u hm => by
    have h0 := hi.use u hm
    refine h.use h0 ?_
    rw [backB_bit hi hR hL', Bool.or_eq_true]
    exact .inr (decide_eq_true (by rw [Int.toNat_of_nonneg h0.1]; exact hm))
  have hkeep : ∀ r, r < R → L'.testBit r = true → i.defines ≠ some (r : Int) → (backB i L').testBit r = true := fun r hr hl hn => by
    rw [backB_bit hi hR hL', hl, decide_eq_false hn]; rfl
  have hset : ∀ d, i.defines = some d → ∀ v, RelS a b R L' (s.setReg d v) (s'.setReg (thR a b d) v) := fun d hd v =>
    h.def_ hth (hi.dfn d hd) (fun r hr hl hne => hkeep r hr hl (fun e => by rw [hd] at e; injection e with e; exact hne e.symm)) (hno d hd)
  have hnone : i.defines = none → RelS a b R L' s s' := fun hn => h.sub (fun r hr hl => hkeep r hr hl (fun e => by rw [hn] at e; cases e))
  have hrow : ∀ k, s'.row k = s.row k := fun k => by unfold St.row; rw [h.mem]
  have hcount : ∀ k, s'.count k = s.count k := fun k => by unfold St.count; rw [h.cnt]
  obtain ⟨op, d, x, y, imm, sym⟩ := i
  have hop : 1 ≤ op ∧ op ≤ 16 := hop
  have hk : op = 1 ∨ op = 2 ∨ op = 3 ∨ op = 4 ∨ op = 5 ∨ op = 6 ∨ op = 7 ∨ op = 8 ∨ op = 9 ∨ op = 10 ∨ op = 11 ∨ op = 12 ∨ op = 13 ∨ op = 14 ∨ op = 15 ∨ op = 16 := by omega
  rcases hk with rfl | rfl | rfl | rfl | rfl | rfl | rfl | rfl | rfl | rfl | rfl | rfl | rfl | rfl | rfl | rfl
  · exact hset d rfl _
  · show StepRel a b R L' (.ok (s.setReg d (s.reg x))) (.ok (s'.setReg (thR a b d) (s'.reg (thR a b x))))
    rw [hu x (List.mem_singleton.2 rfl)]; exact hset d rfl _
  · show StepRel a b R L' (if Wd.err imm (s.reg y) = 0 then .ok (s.setReg d (Wd.apply imm (s.reg x) (s.reg y))) else .error (Wd.err imm (s.reg y))) (if Wd.err imm (s'.reg (thR a b y)) = 0 then .ok (s'.setReg (thR a b d) (Wd.apply imm (s'.reg (thR a b x)) (s'.reg (thR a b y)))) else .error (Wd.err imm (s'.reg (thR a b y))))
    rw [hu x (show x ∈ [x, y] by simp), hu y (show y ∈ [x, y] by simp)]
    exact StepRel.ite Iff.rfl (fun _ => hset d rfl _) (fun _ => rfl)
  · show StepRel a b R L' (if s.reg x < 0 ∨ (s.row (pos names sym)).length ≤ s.reg x then .error 10 else .ok (s.setReg d ((s.row (pos names sym)).getD (s.reg x).toNat 0))) (if s'.reg (thR a b x) < 0 ∨ (s'.row (pos names sym)).length ≤ s'.reg (thR a b x) then .error 10 else .ok (s'.setReg (thR a b d) ((s'.row (pos names sym)).getD (s'.reg (thR a b x)).toNat 0)))
    rw [hu x (List.mem_singleton.2 rfl), hrow]
    exact StepRel.ite Iff.rfl (fun _ => rfl) (fun _ => hset d rfl _)
  · show StepRel a b R L' (if s.reg x < 0 ∨ (s.row (pos names sym)).length ≤ s.reg x then .error 10 else .ok { s with mem := s.mem.set (pos names sym) ((s.row (pos names sym)).set (s.reg x).toNat (s.reg y)) }) (if s'.reg (thR a b x) < 0 ∨ (s'.row (pos names sym)).length ≤ s'.reg (thR a b x) then .error 10 else .ok { s' with mem := s'.mem.set (pos names sym) ((s'.row (pos names sym)).set (s'.reg (thR a b x)).toNat (s'.reg (thR a b y))) })
    rw [hu x (show x ∈ [x, y] by simp), hu y (show y ∈ [x, y] by simp), hrow]
    have h2 := hnone rfl
    exact StepRel.ite Iff.rfl (fun _ => rfl) (fun _ => ⟨h2.cnt, by show s'.mem.set _ _ = s.mem.set _ _; rw [h2.mem], h2.locked, h2.held, h2.out, h2.read, h2.len, h2.len', h2.reg⟩)
  · show StepRel a b R L' (if s.reg x < 0 ∨ (s.row (pos names sym)).length ≤ s.reg x then .error 10 else .ok (s.setReg d ((s.row (pos names sym)).getD (s.reg x).toNat 0))) (if s'.reg (thR a b x) < 0 ∨ (s'.row (pos names sym)).length ≤ s'.reg (thR a b x) then .error 10 else .ok (s'.setReg (thR a b d) ((s'.row (pos names sym)).getD (s'.reg (thR a b x)).toNat 0)))
    rw [hu x (List.mem_singleton.2 rfl), hrow]
    exact StepRel.ite Iff.rfl (fun _ => rfl) (fun _ => hset d rfl _)
  · show StepRel a b R L' (if s.reg x < 0 ∨ (s.row (pos names sym)).length ≤ s.reg x then .error 10 else .ok { s with mem := s.mem.set (pos names sym) ((s.row (pos names sym)).set (s.reg x).toNat (s.reg y)) }) (if s'.reg (thR a b x) < 0 ∨ (s'.row (pos names sym)).length ≤ s'.reg (thR a b x) then .error 10 else .ok { s' with mem := s'.mem.set (pos names sym) ((s'.row (pos names sym)).set (s'.reg (thR a b x)).toNat (s'.reg (thR a b y))) })
    rw [hu x (show x ∈ [x, y] by simp), hu y (show y ∈ [x, y] by simp), hrow]
    have h2 := hnone rfl
    exact StepRel.ite Iff.rfl (fun _ => rfl) (fun _ => ⟨h2.cnt, by show s'.mem.set _ _ = s.mem.set _ _; rw [h2.mem], h2.locked, h2.held, h2.out, h2.read, h2.len, h2.len', h2.reg⟩)
  · show StepRel a b R L' (if s.reg x < 0 ∨ imm ≤ s.reg x then .error 11 else .ok s) (if s'.reg (thR a b x) < 0 ∨ imm ≤ s'.reg (thR a b x) then .error 11 else .ok s')
    rw [hu x (List.mem_singleton.2 rfl)]
    exact StepRel.ite Iff.rfl (fun _ => rfl) (fun _ => hnone rfl)
  · show StepRel a b R L' (.ok { s.setReg d (inp.getD s.read 0) with read := s.read + 1 }) (.ok { s'.setReg (thR a b d) (inp.getD s'.read 0) with read := s'.read + 1 })
    rw [h.read]
    have h2 := hset d rfl (inp.getD s.read 0)
    exact ⟨h2.cnt, h2.mem, h2.locked, h2.held, h2.out, rfl, h2.len, h2.len', h2.reg⟩
  · show StepRel a b R L' (.ok { s with out := s.out ++ [(imm, s.reg x)] }) (.ok { s' with out := s'.out ++ [(imm, s'.reg (thR a b x))] })
    rw [hu x (List.mem_singleton.2 rfl)]
    have h2 := hnone rfl
    exact ⟨h2.cnt, h2.mem, h2.locked, h2.held, by show s'.out ++ _ = s.out ++ _; rw [h2.out], h2.read, h2.len, h2.len', h2.reg⟩
  · show StepRel a b R L' (if s.locked = true then .error 12 else .ok { s with locked := true, held := sym }) (if s'.locked = true then .error 12 else .ok { s' with locked := true, held := sym })
    rw [h.locked]
    have h2 := hnone rfl
    exact StepRel.ite Iff.rfl (fun _ => rfl) (fun _ => ⟨h2.cnt, h2.mem, rfl, rfl, h2.out, h2.read, h2.len, h2.len', h2.reg⟩)
  · show StepRel a b R L' (if s.locked = false ∨ ¬ s.held = sym then .error 12 else .ok { s with locked := false, held := ⟨#[]⟩ }) (if s'.locked = false ∨ ¬ s'.held = sym then .error 12 else .ok { s' with locked := false, held := ⟨#[]⟩ })
    rw [h.locked, h.held]
    have h2 := hnone rfl
    exact StepRel.ite Iff.rfl (fun _ => rfl) (fun _ => ⟨h2.cnt, h2.mem, rfl, rfl, h2.out, h2.read, h2.len, h2.len', h2.reg⟩)
  · show StepRel a b R L' (.ok (s.setCount imm 0)) (.ok (s'.setCount imm 0))
    have h2 := hnone rfl
    exact ⟨by show s'.cnt.set _ _ = s.cnt.set _ _; rw [h2.cnt], h2.mem, h2.locked, h2.held, h2.out, h2.read, h2.len, h2.len', h2.reg⟩
  · show StepRel a b R L' (.ok (s.setCount imm (wrap32 (s.count imm + 1)))) (.ok (s'.setCount imm (wrap32 (s'.count imm + 1))))
    rw [hcount]
    have h2 := hnone rfl
    exact ⟨by show s'.cnt.set _ _ = s.cnt.set _ _; rw [h2.cnt], h2.mem, h2.locked, h2.held, h2.out, h2.read, h2.len, h2.len', h2.reg⟩
  · show StepRel a b R L' (.ok (s.setReg d (s.count imm))) (.ok (s'.setReg (thR a b d) (s'.count imm)))
    rw [hcount]; exact hset d rfl _
  · show StepRel a b R L' (if s.count x < 0 ∨ imm ≤ s.count x then .error 11 else .ok s) (if s'.count x < 0 ∨ imm ≤ s'.count x then .error 11 else .ok s')
    rw [hcount]
    exact StepRel.ite Iff.rfl (fun _ => rfl) (fun _ => hnone rfl)
end
/-- no two registers of one place are live behind a definition of one of them -/
def NoInt (f : Fn) (R : Nat) (outs : List Nat) (a b : Int) : Prop := ∀ (k : Nat) (q : Blk) (j : Nat) (i : Ins), f.blocks[k]? = some q → q.code[j]? = some i → ∀ d, i.defines = some d → ∀ r : Nat, r < R → (blkB q (j + 1) (outs.getD k 0)).testBit r = true → (r : Int) ≠ d → thR a b (r : Int) ≠ thR a b d
/-- what two runs have in common -/
def EndRel (r r' : Nat × Int × St) : Prop := r'.1 = r.1 ∧ r'.2.1 = r.2.1 ∧ r'.2.2.mem = r.2.2.mem ∧ r'.2.2.out = r.2.2.out ∧ r'.2.2.read = r.2.2.read
theorem EndRel.of {a b : Int} {R L : Nat} {s s' : St} (h : RelS a b R L s s') (n : Nat) (e : Int) : EndRel (n, e, s) (n, e, s') := ⟨rfl, rfl, h.mem, h.out, h.read⟩
theorem go_turn {f : Fn} {R : Nat} {ins outs : List Nat} {a b : Int} {names : List ByteArray} {inp : List Int} (hf : FormR f R) (hs : Sol f R ins outs) (hth : ∀ r : Int, 0 ≤ r ∧ r < (R : Int) → 0 ≤ thR a b r ∧ thR a b r < (R : Int)) (hno : NoInt f R outs a b) :
    ∀ (n k j : Nat) (q : Blk) (s s' : St), f.blocks[k]? = some q → j ≤ q.code.length → RelS a b R (blkB q j (outs.getD k 0)) s s' → EndRel (go f.blocks names inp n k j s) (go (f.blocks.map (turnBlk a b)) names inp n k j s')
  | 0, k, j, q, s, s', _, _, h => EndRel.of h 0 13
  | n + 1, k, j, q, s, s', hq, hj, h => by
    have hq' : (f.blocks.map (turnBlk a b))[k]? = some (turnBlk a b q) := by rw [List.getElem?_map, hq]; rfl
    have hbr := hf.blk q (List.mem_of_getElem? hq)
    have hob := hs.bo k
    unfold go
    rw [hq, hq']
    show EndRel (match q.code[j]? with | some i => _ | none => _) (match (q.code.map (turnI a b))[j]? with | some i => _ | none => _)
    rw [List.getElem?_map]
    cases hi : q.code[j]? with
    | some i =>
      obtain ⟨h1, h2, h3⟩ := hbr.ins i (List.mem_of_getElem? hi)
      rw [blkB_step hi] at h
      have hst := step_turn (names := names) (inp := inp) hth hf.few h3 (blkB_lt (k := j + 1) hbr hob) h ⟨h1, h2⟩ (hno k q j i hq hi)
      have hjl := (List.getElem?_eq_some_iff.1 hi).1
      show EndRel (match step names inp i s with | .error e => (0, e, s) | .ok s1 => _) (match step names inp (turnI a b i) s' with | .error e => (0, e, s') | .ok s1 => _)
      cases hx : step names inp i s with
      | error e =>
        cases hy : step names inp (turnI a b i) s' with
        | error e' =>
          rw [hx, hy] at hst
          have hst : e' = e := hst
          subst hst
          exact EndRel.of h 0 e'
        | ok s1' => rw [hx, hy] at hst; exact hst.elim
      | ok s1 =>
        cases hy : step names inp (turnI a b i) s' with
        | error e' => rw [hx, hy] at hst; exact hst.elim
        | ok s1' =>
          rw [hx, hy] at hst
          have ih := go_turn (names := names) (inp := inp) hf hs hth hno n k (j + 1) q s1 s1' hq hjl hst
          exact ⟨congrArg (· + 1) ih.1, ih.2⟩
    | none =>
      have hjl : j = q.code.length := by
        have := List.getElem?_eq_none_iff.1 hi
        omega
      subst hjl
      rw [blkB_end] at h
      show EndRel (if q.kind = 3 then _ else _) (if q.kind = 3 then _ else _)
      by_cases h3 : q.kind = 3
      · rw [if_pos h3, if_pos h3]
        show EndRel (if s.locked = true then (0, 12, s) else (1, 0, s)) (if s'.locked = true then (0, 12, s') else (1, 0, s'))
        rw [h.locked]
        by_cases hl : s.locked = true
        · rw [if_pos hl, if_pos hl]; exact EndRel.of h 0 12
        · rw [if_neg hl, if_neg hl]; exact EndRel.of h 1 0
      · rw [if_neg h3, if_neg h3]
        have hnext : (turnBlk a b q).next s' = q.next s := by
          unfold Blk.next turnBlk
          show (if q.kind = 2 ∧ s'.reg (if q.kind = 2 then thR a b q.x else q.x) = 0 then q.els.toNat else q.to.toNat) = _
          by_cases h2 : q.kind = 2
          · have hx := hbr.fin h2
            rw [if_pos h2, h.use hx (by rw [lastB_bit hbr.fin, Bool.or_eq_true]; exact .inr (decide_eq_true ⟨h2, by first | rfl | omega⟩))]
          · simp only [h2, false_and, if_false]
        have hk := hbr.kind
        obtain ⟨t, ht, hte⟩ : ∃ t ∈ q.succ, t.toNat = q.next s := by
          unfold Blk.succ Blk.next
          by_cases h1 : q.kind = 1 ∨ (q.kind = 2 ∧ q.to = q.els)
          · rw [if_pos h1]
            refine ⟨q.to, List.mem_singleton.2 rfl, ?_⟩
            rcases h1 with h1 | ⟨h1, h4⟩
            · rw [if_neg (by omega)]
            · rw [← h4]; split <;> rfl
          · rw [if_neg h1, if_pos (by omega)]
            by_cases h4 : q.kind = 2 ∧ s.reg q.x = 0
            · exact ⟨q.els, by simp, by rw [if_pos h4]⟩
            · exact ⟨q.to, by simp, by rw [if_neg h4]⟩
        have htr := hbr.succ t ht
        have hlt : t.toNat < f.blocks.length := by omega
        have ih := go_turn (names := names) (inp := inp) hf hs hth hno n (q.next s) 0 f.blocks[t.toNat] s s' (by rw [← hte]; exact List.getElem?_eq_getElem hlt) (Nat.zero_le _) (h.sub (fun r hr hl => by
          rw [← hs.eqi _ _ (by rw [← hte]; exact List.getElem?_eq_getElem hlt), ← hte] at hl
          rw [lastB_bit hbr.fin, Bool.or_eq_true]
          exact .inl ((hs.eqo k q hq r).2 ⟨t, ht, hl⟩)))
        rw [hnext]
        exact ⟨congrArg (· + 1) ih.1, ih.2⟩
end Go.Proofs.YteknhnnlhhgppaaDoor
