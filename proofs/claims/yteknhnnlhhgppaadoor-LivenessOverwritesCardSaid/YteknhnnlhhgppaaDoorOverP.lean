/-
  A register that is not live may be overwritten (layer 19), plainly: the run is the same but for its steps. No program is named here.
-/
import Derived.Test.YteknhnnlhhgppaaDoorMergeP
namespace Go.Proofs.YteknhnnlhhgppaaDoor
set_option linter.unusedVariables false
set_option linter.unusedSimpArgs false
open Go.RowKit
set_option maxRecDepth 100000

theorem thR_id (a r : Int) : thR a a r = r := by unfold thR; split <;> simp_all
theorem turnI_id (a : Int) (i : Ins) : turnI a a i = i := by
  unfold turnI
  simp only [thR_id, ite_self]
theorem thR_ok (a : Int) (R : Nat) : ∀ r : Int, 0 ≤ r ∧ r < (R : Int) → 0 ≤ thR a a r ∧ thR a a r < (R : Int) := fun r h => by rw [thR_id]; exact h
/-- instructions that set registers to a value -/
def setI (v : Int) (r : Nat) : Ins := ⟨1, (r : Int), 0, 0, v, ⟨#[]⟩⟩
/-- a list put into a list at a place -/
def putAt {α : Type} (l : List α) (i : Nat) (P : List α) : List α := l.take i ++ P ++ l.drop i
theorem putAt_lo {α : Type} {l P : List α} {i j : Nat} (hi : i ≤ l.length) (h : j < i) : (putAt l i P)[j]? = l[j]? := by
  unfold putAt
  rw [List.append_assoc, List.getElem?_append_left (by simp; omega), List.getElem?_take, if_pos h]
theorem putAt_mid {α : Type} {l P : List α} {i j : Nat} (hi : i ≤ l.length) (h : j < P.length) : (putAt l i P)[i + j]? = P[j]? := by
  unfold putAt
  rw [List.append_assoc, List.getElem?_append_right (by simp; omega), List.getElem?_append_left (by simp; omega)]
  congr 1
  simp
  omega
theorem putAt_hi {α : Type} {l P : List α} {i j : Nat} (hi : i ≤ l.length) (h : i ≤ j) : (putAt l i P)[P.length + j]? = l[j]? := by
  unfold putAt
  rw [List.getElem?_append_right (by simp; omega), List.getElem?_drop]
  congr 1
  simp
  omega
/-- block k0 with P at i0 -/
def putBlk (q : Blk) (i0 : Nat) (P : List Ins) : Blk := { q with code := putAt q.code i0 P }
def putFn (f : Fn) (k0 i0 : Nat) (P : List Ins) : List Blk := f.blocks.mapIdx fun k q => if k = k0 then putBlk q i0 P else q
/-- what two runs have in common but for their steps -/
def EndRel' (r r' : Nat × Int × St) : Prop := r'.2.1 = r.2.1 ∧ r'.2.2.mem = r.2.2.mem ∧ r'.2.2.out = r.2.2.out ∧ r'.2.2.read = r.2.2.read
theorem go_lift {blocks : List Blk} {names : List ByteArray} {inp : List Int} {n k j : Nat} {s : St} (h : (go blocks names inp n k j s).2.1 ≠ 13) : go blocks names inp (n + 1) k j s = go blocks names inp n k j s := by
  rcases go_fuel (blocks := blocks) (names := names) (inp := inp) n (n + 1) k j s (Nat.le_succ _) with ⟨h1, _⟩ | ⟨_, h1⟩
  · exact absurd h1 h
  · exact h1
section
variable {f : Fn} {R k0 i0 : Nat} {ins outs : List Nat} {names : List ByteArray} {inp : List Int} {P : List Ins} {q0 : Blk}
/-- P's instructions set registers that are not live there -/
def DeadP (R L : Nat) (P : List Ins) : Prop := ∀ i ∈ P, ∃ (v : Int) (r : Nat), i = setI v r ∧ r < R ∧ L.testBit r = false
theorem step_dead {L : Nat} {s s' : St} {v : Int} {r : Nat} (h : RelS 0 0 R L s s') (hr : r < R) (hl : L.testBit r = false) : ∃ s1, step names inp (setI v r) s' = .ok s1 ∧ RelS 0 0 R L s s1 := by
  refine ⟨s'.setReg (r : Int) (wrap32 v), rfl, ⟨h.cnt, h.mem, h.locked, h.held, h.out, h.read, h.len, by show (s'.regs.set _ _).length = _; rw [List.length_set]; exact h.len', fun x hx hxl => ?_⟩⟩
  have hne : ¬ (x : Int) = (r : Int) := fun e => by
    have e : x = r := by omega
    subst e
    rw [hl] at hxl
    cases hxl
  rw [thR_id, reg_set (by rw [h.len']; exact ⟨by omega, by omega⟩) (by omega), if_neg hne]
  have := h.reg x hx hxl
  rwa [thR_id] at this
/-- the place in the longer block -/
def plc (k0 i0 m k j : Nat) : Nat := if k = k0 ∧ i0 ≤ j then m + j else j
theorem go_over (hf : FormR f R) (hs : Sol f R ins outs) (hq0 : f.blocks[k0]? = some q0) (hi0 : i0 ≤ q0.code.length) (hP : DeadP R (blkB q0 i0 (outs.getD k0 0)) P) :
    ∀ (n : Nat), (∀ (k j : Nat) (q : Blk) (s s' : St), f.blocks[k]? = some q → j ≤ q.code.length → RelS 0 0 R (blkB q j (outs.getD k 0)) s s' → (k = k0 → j ≠ i0) → (go (putFn f k0 i0 P) names inp n k (plc k0 i0 P.length k j) s').2.1 ≠ 13 →
        EndRel' (go f.blocks names inp n k j s) (go (putFn f k0 i0 P) names inp n k (plc k0 i0 P.length k j) s')) ∧
      (∀ (d : Nat) (s s' : St), d ≤ P.length → RelS 0 0 R (blkB q0 i0 (outs.getD k0 0)) s s' → (go (putFn f k0 i0 P) names inp n k0 (i0 + d) s').2.1 ≠ 13 →
        EndRel' (go f.blocks names inp n k0 i0 s) (go (putFn f k0 i0 P) names inp n k0 (i0 + d) s'))
  | 0 => ⟨fun _ _ _ _ _ _ _ _ _ h => absurd rfl h, fun _ _ _ _ _ h => absurd rfl h⟩
  | n + 1 => by
    obtain ⟨ih1, ih2⟩ := go_over hf hs hq0 hi0 hP n
    -- from a place of f on
    have ih : ∀ (k j : Nat) (q : Blk) (s s' : St), f.blocks[k]? = some q → j ≤ q.code.length → RelS 0 0 R (blkB q j (outs.getD k 0)) s s' → (go (putFn f k0 i0 P) names inp n k (if k = k0 ∧ i0 < j then P.length + j else j) s').2.1 ≠ 13 →
        EndRel' (go f.blocks names inp n k j s) (go (putFn f k0 i0 P) names inp n k (if k = k0 ∧ i0 < j then P.length + j else j) s') := fun k j q s s' hq hj h hne => by
      by_cases e : k = k0 ∧ j = i0
      · obtain ⟨rfl, rfl⟩ := e
        rw [hq0] at hq
        cases hq
        rw [if_neg (by omega)] at hne ⊢
        exact ih2 0 s s' (Nat.zero_le _) h hne
      · have e2 : (if k = k0 ∧ i0 < j then P.length + j else j) = plc k0 i0 P.length k j := by
          unfold plc
          by_cases e3 : k = k0 ∧ i0 < j
          · rw [if_pos e3, if_pos ⟨e3.1, by omega⟩]
          · rw [if_neg e3, if_neg (fun h => e3 ⟨h.1, by have := h.2; have : j ≠ i0 := fun h2 => e ⟨h.1, h2⟩; omega⟩)]
        rw [e2] at hne ⊢
        exact ih1 k j q s s' hq hj h (fun h1 h2 => e ⟨h1, h2⟩) hne
    -- one step alike
    have one : ∀ (k j p : Nat) (q : Blk) (s s' : St), f.blocks[k]? = some q → j ≤ q.code.length → RelS 0 0 R (blkB q j (outs.getD k 0)) s s' → (∀ qq, (putFn f k0 i0 P)[k]? = some qq → qq.code[p]? = q.code[j]?) → (p + 1 = if k = k0 ∧ i0 < j + 1 then P.length + (j + 1) else j + 1) →
        (go (putFn f k0 i0 P) names inp (n + 1) k p s').2.1 ≠ 13 → EndRel' (go f.blocks names inp (n + 1) k j s) (go (putFn f k0 i0 P) names inp (n + 1) k p s') := fun k j p q s s' hq hj h hcode hp hne => by
      have hqq : (putFn f k0 i0 P)[k]? = some (if k = k0 then putBlk q i0 P else q) := by unfold putFn; rw [List.getElem?_mapIdx, hq]; rfl
      obtain ⟨qq, hqd⟩ : ∃ qq, (if k = k0 then putBlk q i0 P else q) = qq := ⟨_, rfl⟩
      have hk1 : qq.kind = q.kind ∧ qq.x = q.x ∧ qq.to = q.to ∧ qq.els = q.els := by rw [← hqd]; split <;> exact ⟨rfl, rfl, rfl, rfl⟩
      rw [hqd] at hqq
      have hc := hcode qq hqq
      have hbr := hf.blk q (List.mem_of_getElem? hq)
      have hob := hs.bo k
      unfold go at hne ⊢
      rw [hqq] at hne ⊢
      rw [hq]
      change (match qq.code[p]? with | some i => _ | none => _ : Nat × Int × St).2.1 ≠ 13 at hne
      show EndRel' (match q.code[j]? with | some i => _ | none => _) (match qq.code[p]? with | some i => _ | none => _)
      rw [hc] at hne ⊢
      cases hi : q.code[j]? with
      | some i =>
        rw [hi] at hne
        obtain ⟨h1, h2, h3⟩ := hbr.ins i (List.mem_of_getElem? hi)
        rw [blkB_step hi] at h
        have hst := step_turn (names := names) (inp := inp) (thR_ok 0 R) hf.few h3 (blkB_lt (k := j + 1) hbr hob) h ⟨h1, h2⟩ (fun d _ r _ _ hne => by rw [thR_id, thR_id]; exact hne)
        rw [turnI_id] at hst
        have hjl := (List.getElem?_eq_some_iff.1 hi).1
        change (match step names inp i s' with | .error e => (0, e, s') | .ok s1 => _ : Nat × Int × St).2.1 ≠ 13 at hne
        show EndRel' (match step names inp i s with | .error e => (0, e, s) | .ok s1 => _) (match step names inp i s' with | .error e => (0, e, s') | .ok s1 => _)
        cases hx : step names inp i s with
        | error e =>
          cases hy : step names inp i s' with
          | error e' =>
            rw [hx, hy] at hst
            have hst : e' = e := hst
            subst hst
            exact ⟨rfl, h.mem, h.out, h.read⟩
          | ok s1' => rw [hx, hy] at hst; exact hst.elim
        | ok s1 =>
          cases hy : step names inp i s' with
          | error e' => rw [hx, hy] at hst; exact hst.elim
          | ok s1' =>
            rw [hx, hy] at hst
            rw [hy] at hne
            have hne : (go (putFn f k0 i0 P) names inp n k (p + 1) s1').2.1 ≠ 13 := hne
            rw [hp] at hne
            have h9 := ih k (j + 1) q s1 s1' hq hjl hst hne
            rw [← hp] at h9
            exact h9
      | none =>
        rw [hi] at hne
        have hjl : j = q.code.length := by
          have := List.getElem?_eq_none_iff.1 hi
          omega
        subst hjl
        rw [blkB_end] at h
        change (if qq.kind = 3 then _ else _ : Nat × Int × St).2.1 ≠ 13 at hne
        show EndRel' (if q.kind = 3 then _ else _) (if qq.kind = 3 then _ else _)
        rw [hk1.1] at hne ⊢
        by_cases h3 : q.kind = 3
        · rw [if_pos h3, if_pos h3]
          show EndRel' (if s.locked = true then (0, 12, s) else (1, 0, s)) (if s'.locked = true then (0, 12, s') else (1, 0, s'))
          rw [h.locked]
          by_cases hl : s.locked = true
          · rw [if_pos hl, if_pos hl]; exact ⟨rfl, h.mem, h.out, h.read⟩
          · rw [if_neg hl, if_neg hl]; exact ⟨rfl, h.mem, h.out, h.read⟩
        · rw [if_neg h3] at hne ⊢
          rw [if_neg h3]
          have hnext : qq.next s' = q.next s := by
            unfold Blk.next
            rw [hk1.1, hk1.2.1, hk1.2.2.1, hk1.2.2.2]
            by_cases h2 : q.kind = 2
            · have hx := hbr.fin h2
              have h9 := h.use hx (by rw [lastB_bit hbr.fin, Bool.or_eq_true]; exact .inr (decide_eq_true ⟨h2, by omega⟩))
              rw [thR_id] at h9
              rw [h9]
            · simp only [h2, false_and, if_false]
          have hk := hbr.kind
          obtain ⟨t, ht, hte⟩ : ∃ t ∈ q.succ, t.toNat = q.next s := by
            unfold Blk.succ Blk.next
            by_cases h1 : q.kind = 1 ∨ (q.kind = 2 ∧ q.to = q.els)
            · rw [if_pos h1]
              refine ⟨q.to, List.mem_singleton.2 rfl, ?_⟩
              rcases h1 with h1 | ⟨h1, h4⟩
              · rw [if_neg (by omega)]
              · rw [← h4]; split <;> rfl
            · rw [if_neg h1, if_pos (by omega)]
              by_cases h4 : q.kind = 2 ∧ s.reg q.x = 0
              · exact ⟨q.els, by simp, by rw [if_pos h4]⟩
              · exact ⟨q.to, by simp, by rw [if_neg h4]⟩
          have htr := hbr.succ t ht
          have hlt : t.toNat < f.blocks.length := by omega
          rw [hnext] at hne ⊢
          have hne : (go (putFn f k0 i0 P) names inp n (q.next s) 0 s').2.1 ≠ 13 := hne
          have e0 : (if q.next s = k0 ∧ i0 < 0 then P.length + 0 else 0) = 0 := by rw [if_neg (by omega)]
          have h9 := ih (q.next s) 0 f.blocks[t.toNat] s s' (by rw [← hte]; exact List.getElem?_eq_getElem hlt) (Nat.zero_le _) (h.sub (fun r hr hl => by
            rw [← hs.eqi _ _ (by rw [← hte]; exact List.getElem?_eq_getElem hlt), ← hte] at hl
            rw [lastB_bit hbr.fin, Bool.or_eq_true]
            exact .inl ((hs.eqo k q hq r).2 ⟨t, ht, hl⟩))) (by rw [e0]; exact hne)
          rw [e0] at h9
          exact h9
    refine ⟨fun k j q s s' hq hj h hk hne => ?_, fun d s s' hd h hne => ?_⟩
    · refine one k j (plc k0 i0 P.length k j) q s s' hq hj h (fun qq hqq => ?_) ?_ hne
      · have hqq2 : (putFn f k0 i0 P)[k]? = some (if k = k0 then putBlk q i0 P else q) := by unfold putFn; rw [List.getElem?_mapIdx, hq]; rfl
        rw [hqq2] at hqq
        cases hqq
        by_cases e : k = k0
        · subst e
          rw [hq0] at hq
          cases hq
          rw [if_pos rfl]
          unfold plc
          by_cases e2 : i0 ≤ j
          · rw [if_pos ⟨rfl, e2⟩]; exact putAt_hi hi0 e2
          · rw [if_neg (fun h => e2 h.2)]; exact putAt_lo hi0 (by omega)
        · rw [if_neg e]
          unfold plc
          rw [if_neg (fun h => e h.1)]
      · unfold plc
        by_cases e : k = k0
        · have := hk e
          by_cases e2 : i0 ≤ j
          · rw [if_pos ⟨e, e2⟩, if_pos ⟨e, by omega⟩]; omega
          · rw [if_neg (fun h => e2 h.2), if_neg (fun h => by omega)]
        · rw [if_neg (fun h => e h.1), if_neg (fun h => e h.1)]
    · by_cases hdl : d < P.length
      · -- an instruction of P
        have hqq : (putFn f k0 i0 P)[k0]? = some (putBlk q0 i0 P) := by unfold putFn; rw [List.getElem?_mapIdx, hq0]; show some (if k0 = k0 then _ else _) = _; rw [if_pos rfl]
        have hcode : (putBlk q0 i0 P).code[i0 + d]? = some P[d] := by
          show (putAt q0.code i0 P)[i0 + d]? = _
          rw [putAt_mid hi0 hdl, List.getElem?_eq_getElem hdl]
        obtain ⟨v, r, he, hr, hl⟩ := hP P[d] (List.getElem_mem hdl)
        obtain ⟨s1, hst, h1⟩ := step_dead (names := names) (inp := inp) (v := v) h hr hl
        rw [← he] at hst
        have hgo : go (putFn f k0 i0 P) names inp (n + 1) k0 (i0 + d) s' = ((go (putFn f k0 i0 P) names inp n k0 (i0 + (d + 1)) s1).1 + 1, (go (putFn f k0 i0 P) names inp n k0 (i0 + (d + 1)) s1).2) := by
          conv => lhs; unfold go
          rw [hqq]
          show (match (putBlk q0 i0 P).code[i0 + d]? with | some i => _ | none => _ : Nat × Int × St) = _
          rw [hcode]
          show (match step names inp P[d] s' with | .error e => _ | .ok s' => _ : Nat × Int × St) = _
          rw [hst]
          rfl
        rw [hgo] at hne ⊢
        have h9 := ih2 (d + 1) s s1 hdl h1 hne
        have hne2 : (go f.blocks names inp n k0 i0 s).2.1 ≠ 13 := by rw [← h9.1]; exact hne
        rw [go_lift hne2]
        exact h9
      · obtain rfl : d = P.length := by omega
        refine one k0 i0 (i0 + P.length) q0 s s' hq0 hi0 h (fun qq hqq => ?_) ?_ hne
        · have hqq2 : (putFn f k0 i0 P)[k0]? = some (putBlk q0 i0 P) := by unfold putFn; rw [List.getElem?_mapIdx, hq0]; show some (if k0 = k0 then _ else _) = _; rw [if_pos rfl]
          rw [hqq2] at hqq
          cases hqq
          show (putAt q0.code i0 P)[i0 + P.length]? = _
          rw [Nat.add_comm]
          exact putAt_hi hi0 (Nat.le_refl _)
        · rw [if_pos ⟨rfl, by omega⟩]; omega
end
end Go.Proofs.YteknhnnlhhgppaaDoor
