/-
  IrRenumbers (package ontimelaw17): renumbering the registers of a valid function does not change the outcome.
-/
import Derived.Test.YtjdfcpjlmfaaaaaLawFns17
import Derived.Test.YtjdfcpjlmfaaaaaIrAwake
import Derived.Test.YtjdfcpjlmfaaaaaIrCopied
import Derived.Test.YtjdfcpjlmfaaaaaIrSet
import Derived.Test.YtjdfcpjlmfaaaaaIrOcEq
import Derived.Test.YtjdfcpjlmfaaaaaIrUses
import Derived.Test.YtjdfcpjlmfaaaaaIrSame
import Derived.Deep.RegionHeld3
namespace Go.Proofs.Ytjdfcpjlmfaaaaa
set_option linter.unusedVariables false
set_option linter.unusedSimpArgs false
open Go.RowKit
set_option maxRecDepth 100000
set_option maxHeartbeats 16000000
/-- a slice of ints as an address -/
theorem IntsIn.form {S : Nat → Prop} {w : World} {v : Value} {p : List Int} (h : IntsIn S w v p) (hp : p.length ≤ 9223372036854775807) : ∃ a c, v = .slice a p.length c ∧ (p.length = 0 ∨ ∃ b off, a = some ⟨b, off, none⟩ ∧ ∀ (i : Nat) (x : Int), p[i]? = some x → w.cell? ⟨b, off + i, none⟩ = some (.int .i64 x)) := by
  rcases h with ⟨rfl, rfl⟩ | ⟨b, off, cap, rfl, _, _, _, hk⟩
  · exact ⟨none, 0, rfl, .inl rfl⟩
  · refine ⟨_, cap, rfl, .inr ⟨b, off, rfl, fun i x hx => ?_⟩⟩
    obtain ⟨hi, rfl⟩ := List.getElem?_eq_some_iff.1 hx
    rw [hk i hi]
    simp [hi]
theorem uses_len (i : Ins) : i.uses.length ≤ 2 := by unfold Ins.uses; split <;> (try split) <;> simp



/-- a renumbering of n registers -/
structure Renum (n : Int) (t : Int → Int) : Prop where
  lo : ∀ r, 0 ≤ r → r < n → 0 ≤ t r
  hi : ∀ r, 0 ≤ r → r < n → t r < n
  inj : ∀ r q, 0 ≤ r → r < n → 0 ≤ q → q < n → t r = t q → r = q
theorem renum_add {n b : Int} (hn : 0 < n) : Renum n (fun r => (r + b) % n) := by
  refine ⟨fun r _ _ => Int.emod_nonneg _ (by omega), fun r _ _ => Int.emod_lt_of_pos _ hn, fun r q h1 h2 h3 h4 h => ?_⟩
  have h5 : (r + b - (q + b)) % n = 0 := Int.emod_eq_emod_iff_emod_sub_eq_zero.1 h
  obtain ⟨c, hc⟩ := Int.dvd_of_emod_eq_zero h5
  have hc : r - q = n * c := by omega
  rcases Int.lt_trichotomy c 0 with h6 | h6 | h6
  · have : n * c ≤ n * (-1) := Int.mul_le_mul_of_nonneg_left (by omega) (by omega)
    omega
  · subst h6
    simp at hc
    omega
  · have : n * 1 ≤ n * c := Int.mul_le_mul_of_nonneg_left (by omega) (by omega)
    omega
def Ins.ren (t : Int → Int) (i : Ins) : Ins :=
  { i with dst := if i.defines.isSome = true then t i.dst else i.dst, x := if 0 < i.uses.length then t i.x else i.x, y := if 1 < i.uses.length then t i.y else i.y }
def Blk.ren (t : Int → Int) (b : Blk) : Blk := { b with code := b.code.map (Ins.ren t), x := if b.kind = 2 then t b.x else b.x }
theorem inReg_ren {n : Int} {t : Int → Int} (h : Renum n t) {r : Int} (hr : inReg r n = true) : inReg (t r) n = true := by
  unfold inReg at *
  simp only [Bool.and_eq_true, decide_eq_true_eq] at *
  exact ⟨h.lo r hr.1 hr.2, h.hi r hr.1 hr.2⟩
/-- the operation of a valid instruction -/
theorem insOk_op {regs : Int} {ns : List (ByteArray × Bool)} {i : Ins} (h : insOk regs ns i = true) : i.op = 1 ∨ i.op = 2 ∨ i.op = 3 ∨ i.op = 4 ∨ i.op = 5 ∨ i.op = 6 ∨ i.op = 7 ∨ i.op = 8 ∨ i.op = 9 ∨ i.op = 10 ∨ i.op = 11 ∨ i.op = 12 ∨ i.op = 13 ∨ i.op = 14 ∨ i.op = 15 ∨ i.op = 16 := by
  by_cases hh : i.op = 1 ∨ i.op = 2 ∨ i.op = 3 ∨ i.op = 4 ∨ i.op = 5 ∨ i.op = 6 ∨ i.op = 7 ∨ i.op = 8 ∨ i.op = 9 ∨ i.op = 10 ∨ i.op = 11 ∨ i.op = 12 ∨ i.op = 13 ∨ i.op = 14 ∨ i.op = 15 ∨ i.op = 16
  · exact hh
  · exfalso
    simp only [not_or] at hh
    obtain ⟨h1, h2, h3, h4, h5, h6, h7, h8, h9, h10, h11, h12, h13, h14, h15, h16⟩ := hh
    simp [insOk, h1, h2, h3, h4, h5, h6, h7, h8, h9, h10, h11, h12, h13, h14, h15, h16] at h
theorem insOk_ren {n : Int} {t : Int → Int} (h : Renum n t) {ns : List (ByteArray × Bool)} {i : Ins} (hi : insOk n ns i = true) : insOk n ns (i.ren t) = true := by
  have hop := insOk_op hi
  obtain ⟨op, dst, x, y, imm, sym⟩ := i
  simp only at hop
  rcases hop with rfl | rfl | rfl | rfl | rfl | rfl | rfl | rfl | rfl | rfl | rfl | rfl | rfl | rfl | rfl | rfl <;>
    simp [insOk, Ins.ren, Ins.uses, Ins.defines] at hi ⊢ <;> simp [hi, inReg_ren h]
/-- two states that differ by the numbers of their registers -/
structure RenSt (n : Int) (t : Int → Int) (s s' : St) : Prop where
  l : (s.regs.length : Int) = n
  l' : (s'.regs.length : Int) = n
  regs : ∀ r, 0 ≤ r → r < n → s'.reg (t r) = s.reg r
  cnt : s'.cnt = s.cnt
  mem : s'.mem = s.mem
  locked : s'.locked = s.locked
  held : s'.held = s.held
  out : s'.out = s.out
  read : s'.read = s.read
theorem RenSt.setReg {n : Int} {t : Int → Int} (ht : Renum n t) {s s' : St} (h : RenSt n t s s') {d v : Int} (h0 : 0 ≤ d) (h1 : d < n) : RenSt n t (s.setReg d v) (s'.setReg (t d) v) := by
  refine { h with l := by simpa [St.setReg] using h.l, l' := by simpa [St.setReg] using h.l', regs := fun r hr0 hr1 => ?_ }
  have a := ht.lo r hr0 hr1
  have b := ht.lo d h0 h1
  have c := ht.hi r hr0 hr1
  have e := ht.hi d h0 h1
  have hl := h.l
  have hl' := h.l'
  have hx := h.regs r hr0 hr1
  unfold St.setReg St.reg at *
  simp only [List.getD_eq_getElem?_getD, List.getElem?_set] at *
  by_cases hrd : r = d
  · subst hrd
    rw [if_pos rfl, if_pos rfl, if_pos (by omega), if_pos (by omega)]
  · have n1 : ¬ (t d).toNat = (t r).toNat := fun hq => hrd (ht.inj r d hr0 hr1 h0 h1 (by omega))
    have n2 : ¬ d.toNat = r.toNat := by omega
    rw [if_neg n1, if_neg n2]
    exact hx
/-- what a step leaves on both sides -/
def RenRes (n : Int) (t : Int → Int) : Except Int St → Except Int St → Prop
  | .error e, .error e' => e = e'
  | .ok s, .ok s' => RenSt n t s s'
  | _, _ => False
theorem res_ite {n : Int} {t : Int → Int} {c : Prop} [Decidable c] {a b a' b' : Except Int St} (h1 : c → RenRes n t a a') (h2 : ¬ c → RenRes n t b b') : RenRes n t (if c then a else b) (if c then a' else b') := by
  by_cases h : c
  · rw [if_pos h, if_pos h]; exact h1 h
  · rw [if_neg h, if_neg h]; exact h2 h
theorem inReg_iff {r n : Int} : inReg r n = true ↔ 0 ≤ r ∧ r < n := by simp [inReg]
theorem step_ren {n : Int} {t : Int → Int} (ht : Renum n t) {ns : List (ByteArray × Bool)} {names : List ByteArray} {inp : List Int} {i : Ins} {s s' : St} (hi : insOk n ns i = true) (h : RenSt n t s s') : RenRes n t (step names inp i s) (step names inp (i.ren t) s') := by
  have hop := insOk_op hi
  obtain ⟨op, dst, x, y, imm, sym⟩ := i
  simp only at hop
  have hrow : ∀ k, s'.row k = s.row k := fun k => by unfold St.row; rw [h.mem]
  have hcount : ∀ k, s'.count k = s.count k := fun k => by unfold St.count; rw [h.cnt]
  rcases hop with rfl | rfl | rfl | rfl | rfl | rfl | rfl | rfl | rfl | rfl | rfl | rfl | rfl | rfl | rfl | rfl
  · simp [insOk] at hi
    have hd := inReg_iff.1 hi.1.1.1.1
    simp [step, Ins.ren, Ins.uses, Ins.defines]
    exact h.setReg ht hd.1 hd.2
  · simp [insOk] at hi
    have hd := inReg_iff.1 hi.1.1.1.1
    have hx := inReg_iff.1 hi.1.1.1.2
    simp [step, Ins.ren, Ins.uses, Ins.defines]
    rw [h.regs x hx.1 hx.2]
    exact h.setReg ht hd.1 hd.2
  · simp [insOk] at hi
    have hd := inReg_iff.1 hi.1.1.1.1
    have hx := inReg_iff.1 hi.1.1.1.2
    have hy := inReg_iff.1 hi.1.1.2
    simp [step, Ins.ren, Ins.uses, Ins.defines]
    rw [h.regs x hx.1 hx.2, h.regs y hy.1 hy.2]
    exact res_ite (fun _ => h.setReg ht hd.1 hd.2) (fun _ => rfl)
  · simp [insOk] at hi
    have hd := inReg_iff.1 hi.1.1.1.1
    have hx := inReg_iff.1 hi.1.1.1.2
    simp [step, Ins.ren, Ins.uses, Ins.defines]
    rw [h.regs x hx.1 hx.2, hrow]
    exact res_ite (fun _ => rfl) (fun _ => h.setReg ht hd.1 hd.2)
  · simp [insOk] at hi
    have hx := inReg_iff.1 hi.1.1.1.1
    have hy := inReg_iff.1 hi.1.1.1.2
    simp [step, Ins.ren, Ins.uses, Ins.defines]
    rw [h.regs x hx.1 hx.2, h.regs y hy.1 hy.2, hrow]
    exact res_ite (fun _ => rfl) (fun _ => { h with regs := h.regs, mem := by show List.set _ _ _ = List.set _ _ _; rw [h.mem] })
  · simp [insOk] at hi
    have hd := inReg_iff.1 hi.1.1.1.1
    have hx := inReg_iff.1 hi.1.1.1.2
    simp [step, Ins.ren, Ins.uses, Ins.defines]
    rw [h.regs x hx.1 hx.2, hrow]
    exact res_ite (fun _ => rfl) (fun _ => h.setReg ht hd.1 hd.2)
  · simp [insOk] at hi
    have hx := inReg_iff.1 hi.1.1.1.1
    have hy := inReg_iff.1 hi.1.1.1.2
    simp [step, Ins.ren, Ins.uses, Ins.defines]
    rw [h.regs x hx.1 hx.2, h.regs y hy.1 hy.2, hrow]
    exact res_ite (fun _ => rfl) (fun _ => { h with regs := h.regs, mem := by show List.set _ _ _ = List.set _ _ _; rw [h.mem] })
  · simp [insOk] at hi
    have hx := inReg_iff.1 hi.1.1.1.1
    simp [step, Ins.ren, Ins.uses, Ins.defines]
    rw [h.regs x hx.1 hx.2]
    exact res_ite (fun _ => rfl) (fun _ => h)
  · simp [insOk] at hi
    have hd := inReg_iff.1 hi.1.1.1.1
    simp [step, Ins.ren, Ins.uses, Ins.defines]
    have h2 := h.setReg ht hd.1 hd.2 (v := inp.getD s.read 0)
    have e : s'.read = s.read := h.read
    rw [e]
    simp only [List.getD_eq_getElem?_getD] at h2
    exact { h2 with regs := h2.regs, read := rfl }
  · simp [insOk] at hi
    have hx := inReg_iff.1 hi.1.1.1.1
    simp [step, Ins.ren, Ins.uses, Ins.defines]
    rw [h.regs x hx.1 hx.2]
    exact { h with regs := h.regs, out := by show s'.out ++ _ = s.out ++ _; rw [h.out] }
  · simp [step, Ins.ren, Ins.uses, Ins.defines]
    rw [h.locked]
    exact res_ite (fun _ => rfl) (fun _ => { h with regs := h.regs, locked := rfl, held := rfl })
  · simp [step, Ins.ren, Ins.uses, Ins.defines]
    rw [h.locked, h.held]
    exact res_ite (fun _ => rfl) (fun _ => { h with regs := h.regs, locked := rfl, held := rfl })
  · simp [step, Ins.ren, Ins.uses, Ins.defines]
    exact { h with regs := h.regs, cnt := by show List.set _ _ _ = List.set _ _ _; rw [h.cnt] }
  · simp [step, Ins.ren, Ins.uses, Ins.defines]
    rw [hcount]
    exact { h with regs := h.regs, cnt := by show List.set _ _ _ = List.set _ _ _; rw [h.cnt] }
  · simp [insOk] at hi
    have hd := inReg_iff.1 hi.1.1.1.1
    simp [step, Ins.ren, Ins.uses, Ins.defines]
    rw [hcount]
    exact h.setReg ht hd.1 hd.2
  · simp [step, Ins.ren, Ins.uses, Ins.defines]
    rw [hcount]
    exact res_ite (fun _ => rfl) (fun _ => h)
theorem go_ren {n : Int} {t : Int → Int} (ht : Renum n t) {ns : List (ByteArray × Bool)} {names : List ByteArray} {inp : List Int} {blocks : List Blk} (hc : ∀ b ∈ blocks, b.code.all (insOk n ns) = true) (hx : ∀ b ∈ blocks, b.kind = 2 → 0 ≤ b.x ∧ b.x < n) :
    ∀ (m at_ k : Nat) (s s' : St), RenSt n t s s' → (go (blocks.map (Blk.ren t)) names inp m at_ k s').1 = (go blocks names inp m at_ k s).1 ∧ (go (blocks.map (Blk.ren t)) names inp m at_ k s').2.1 = (go blocks names inp m at_ k s).2.1 ∧ RenSt n t (go blocks names inp m at_ k s).2.2 (go (blocks.map (Blk.ren t)) names inp m at_ k s').2.2 := by
  intro m
  induction m with
  | zero => intro at_ k s s' h; exact ⟨rfl, rfl, h⟩
  | succ m ih =>
    intro at_ k s s' h
    unfold go
    rw [List.getElem?_map]
    cases hb : blocks[at_]? with
    | none => exact ⟨rfl, rfl, h⟩
    | some b =>
      have hbm := List.mem_of_getElem? hb
      simp only [Option.map_some]
      have hcode : (Blk.ren t b).code[k]? = (b.code[k]?).map (Ins.ren t) := by unfold Blk.ren; rw [List.getElem?_map]
      rw [hcode]
      cases hi : b.code[k]? with
      | some i =>
        simp only [Option.map_some]
        have hs := step_ren ht (names := names) (inp := inp) (List.all_eq_true.1 (hc b hbm) i (List.mem_of_getElem? hi)) h
        cases h1 : step names inp i s with
        | error e =>
          cases h2 : step names inp (i.ren t) s' with
          | error e' =>
            rw [h1, h2] at hs
            have hs : e = e' := hs
            subst hs
            exact ⟨rfl, rfl, h⟩
          | ok q => rw [h1, h2] at hs; exact hs.elim
        | ok q =>
          cases h2 : step names inp (i.ren t) s' with
          | error e' => rw [h1, h2] at hs; exact hs.elim
          | ok q' =>
            rw [h1, h2] at hs
            obtain ⟨r1, r2, r3⟩ := ih at_ (k + 1) q q' hs
            exact ⟨by simp only; rw [r1], r2, r3⟩
      | none =>
        simp only [Option.map_none]
        have hk : (Blk.ren t b).kind = b.kind := rfl
        rw [hk, h.locked]
        by_cases h3 : b.kind = 3
        · rw [if_pos h3, if_pos h3]
          by_cases h4 : s.locked = true
          · rw [if_pos h4, if_pos h4]; exact ⟨rfl, rfl, h⟩
          · rw [if_neg h4, if_neg h4]; exact ⟨rfl, rfl, h⟩
        · rw [if_neg h3, if_neg h3]
          have en : (Blk.ren t b).next s' = b.next s := by
            unfold Blk.next
            have e1 : (Blk.ren t b).els = b.els := rfl
            have e2 : (Blk.ren t b).to = b.to := rfl
            rw [hk, e1, e2]
            by_cases h2 : b.kind = 2
            · have e3 : (Blk.ren t b).x = t b.x := by unfold Blk.ren; simp [h2]
              rw [e3, h.regs b.x (hx b hbm h2).1 (hx b hbm h2).2]
            · rw [if_neg (fun e => h2 e.1), if_neg (fun e => h2 e.1)]
          rw [en]
          obtain ⟨r1, r2, r3⟩ := ih (b.next s) 0 s s' h
          exact ⟨by simp only; rw [r1], r2, r3⟩
theorem endOk_ren {n : Int} {t : Int → Int} (ht : Renum n t) {m : Nat} {b : Blk} (h : endOk n m b = true) : endOk n m (b.ren t) = true := by
  unfold endOk at *
  have e0 : (b.ren t).kind = b.kind := rfl
  have e1 : (b.ren t).els = b.els := rfl
  have e2 : (b.ren t).to = b.to := rfl
  rw [e0, e1, e2]
  cases h1 : (b.kind == 1) <;> rw [h1] at h <;> simp only [cond_true, cond_false] at *
  · cases h2 : (b.kind == 2) <;> rw [h2] at h <;> simp only [cond_true, cond_false] at *
    · have hne : ¬ b.kind = 2 := by simpa using h2
      have e3 : (b.ren t).x = b.x := by unfold Blk.ren; simp [hne]
      rw [e3]; exact h
    · have hne : b.kind = 2 := by simpa using h2
      have e3 : (b.ren t).x = t b.x := by unfold Blk.ren; simp [hne]
      rw [e3]
      simp only [Bool.and_eq_true, decide_eq_true_eq] at *
      obtain ⟨⟨⟨⟨⟨a1, a2⟩, a3⟩, a4⟩, a5⟩, a6⟩ := h
      exact ⟨⟨⟨⟨⟨ht.lo _ a1 a2, ht.hi _ a1 a2⟩, a3⟩, a4⟩, a5⟩, a6⟩
  · have hne : ¬ b.kind = 2 := by
      have : b.kind = 1 := by simpa using h1
      omega
    have e3 : (b.ren t).x = b.x := by unfold Blk.ren; simp [hne]
    rw [e3]; exact h
def Fn.ren (t : Int → Int) (f : Fn) : Fn := { f with blocks := f.blocks.map (Blk.ren t) }
theorem fnOk_ren {f : Fn} {shared : List (ByteArray × Int)} {t : Int → Int} (ht : Renum f.regs t) (h : fnOk f shared = true) : fnOk (f.ren t) shared = true := by
  obtain ⟨h1, h2, h3, h4, ns, h5, h6⟩ := fnOk_parts h
  unfold fnOk
  have hn : namesOf (f.ren t) shared = some ns := h5
  have hl : (f.ren t).blocks.length = f.blocks.length := by simp [Fn.ren]
  have e1 : (f.ren t).regs = f.regs := rfl
  have e2 : (f.ren t).arrays = f.arrays := rfl
  rw [hn, hl, e1, e2, decide_eq_true h2, decide_eq_true h3, decide_eq_true h4, beq_eq_false_iff_ne.2 (by omega)]
  simp only [Bool.not_false, Bool.true_and]
  rw [List.all_eq_true] at *
  intro b hb
  obtain ⟨b0, hb0, rfl⟩ := List.mem_map.1 hb
  have := h6 b0 hb0
  unfold blkOk at *
  rw [Bool.and_eq_true, List.all_eq_true] at *
  refine ⟨fun i hi => ?_, by rw [hl]; exact endOk_ren ht this.2⟩
  obtain ⟨i0, hi0, rfl⟩ := List.mem_map.1 hi
  exact insOk_ren ht (this.1 i0 hi0)
theorem run_ren {f : Fn} {shared : List (ByteArray × Int)} {arrays objects : List (List Int)} {inp : List Int} {fuel : Int} {t : Int → Int} (ht : Renum f.regs t) (h : fnOk f shared = true) :
    runOf (f.ren t) shared arrays objects inp fuel = runOf f shared arrays objects inp fuel := by
  obtain ⟨h1, h2, h3, h4, ns, h5, h6⟩ := fnOk_parts h
  have e1 : runFits (f.ren t) shared arrays objects = runFits f shared arrays objects := by
    unfold runFits
    rw [fnOk_ren ht h, h]
    rfl
  unfold runOf
  rw [e1]
  have hb : ∀ b ∈ f.blocks, b.code.all (insOk f.regs ns) = true ∧ endOk f.regs f.blocks.length b = true := fun b hb => by
    have := List.all_eq_true.1 h6 b hb
    unfold blkOk at this
    rw [Bool.and_eq_true] at this
    exact this
  obtain ⟨r1, r2, r3⟩ := go_ren ht (names := fnNames f shared) (inp := inp) (fun b hbm => (hb b hbm).1) (fun b hbm hk => by
    have := (hb b hbm).2
    unfold endOk at this
    have k1 : (b.kind == 1) = false := by simp [hk]
    have k2 : (b.kind == 2) = true := by simp [hk]
    rw [k1, k2] at this
    simp only [cond_true, cond_false, Bool.and_eq_true, decide_eq_true_eq] at this
    exact ⟨this.1.1.1.1.1, this.1.1.1.1.2⟩) fuel.toNat 0 0 (St.init f.regs.toNat (arrays ++ objects)) (St.init f.regs.toNat (arrays ++ objects)) ⟨by simp [St.init]; omega, by simp [St.init]; omega, fun r hr0 hr1 => by
      have a := ht.lo r hr0 hr1
      have c := ht.hi r hr0 hr1
      unfold St.init St.reg
      simp only [List.getD_eq_getElem?_getD, List.getElem?_replicate]
      rw [if_pos (by omega), if_pos (by omega)], rfl, rfl, rfl, rfl, rfl, rfl⟩
  have q1 : (runGo (f.ren t) shared arrays objects inp fuel).1 = (runGo f shared arrays objects inp fuel).1 := r1
  have q2 : (runGo (f.ren t) shared arrays objects inp fuel).2.1 = (runGo f shared arrays objects inp fuel).2.1 := r2
  have q3 : (runGo (f.ren t) shared arrays objects inp fuel).2.2.mem = (runGo f shared arrays objects inp fuel).2.2.mem := r3.mem
  have q4 : (runGo (f.ren t) shared arrays objects inp fuel).2.2.out = (runGo f shared arrays objects inp fuel).2.2.out := r3.out
  have q5 : (runGo (f.ren t) shared arrays objects inp fuel).2.2.read = (runGo f shared arrays objects inp fuel).2.2.read := r3.read
  rw [q1, q2, q3, q4, q5]

theorem to_any (r by_ regs : Int) (bb fb : Nat) (w : World) (hr0 : 0 ≤ r) (hr1 : r < regs) (hb0 : 0 ≤ by_) (hb1 : by_ ≤ 255) (hreg : regs ≤ 10000) (h1 : w.cell? ⟨bb, 0, none⟩ = some (.int .u8 by_)) (h2 : w.cell? ⟨fb, 1, none⟩ = some (.int .i64 regs)) :
    Calls Try.prog 24 #[.int .i64 r, .pointer (some ⟨bb, 0, none⟩), .pointer (some ⟨fb, 0, none⟩)] w fun e w' => e = .returned (.int .i64 ((r + by_) % regs)) ∧ w = w' := by
  have hreg0 : ¬ regs = 0 := by omega
  have hregp : 0 < regs := by omega
  have hsum : 0 ≤ r + by_ := by omega
  go_enter Try.func24, Try.ntmps24
  go_wp2_with fail
  go_ret
  exact ⟨rfl, rfl⟩
section
variable {N : Nat} {T E : TypeId} {w w' : World} {v : Value} {l : List BlkP}
theorem BlkOwn.insCells {k m : Nat} {p : BlkP} {i : Ins} (h : BlkOwn N T E w v l) (hk : l[k]? = some p) (hm : p.blk.code[m]? = some i) : ∃ cb, p.a = some ⟨cb, 0, none⟩ ∧ N ≤ cb ∧ cb < w.heap.size ∧ InsAt w cb (m * 6) i ∧ ∀ j, w.frozen? ⟨cb, j, none⟩ = false := by
  have hc := h.code p (List.mem_of_getElem? hk)
  unfold BlkP.code at hc
  obtain ⟨cb, hpa, h1, h2, _⟩ := own_some hc (Nat.lt_of_le_of_lt (Nat.zero_le _) (List.getElem?_eq_some_iff.1 hm).1)
  rw [hpa] at hc
  have key : ∀ o u, o < 6 → i.cells[o]? = some u → w.cell? ⟨cb, m * 6 + o, none⟩ = some u := fun o u ho hu => own_cell hc ((flat_get Ins.cells_len hm ho).trans hu)
  exact ⟨cb, hpa, h1, h2, ⟨key 0 _ (by omega) rfl, key 1 _ (by omega) rfl, key 2 _ (by omega) rfl, key 3 _ (by omega) rfl, key 4 _ (by omega) rfl, key 5 _ (by omega) rfl⟩, fun j => row_free hc j⟩
theorem BlkOwn.blkCells {g n c k : Nat} {p : BlkP} (h : BlkOwn N T E w (.slice (some ⟨g, 0, none⟩) n c) l) (hk : l[k]? = some p) : BlkAt w g (k * 5) p.blk p.a p.c ∧ ∀ j, w.frozen? ⟨g, j, none⟩ = false := by
  have key : ∀ o u, o < 5 → p.cells[o]? = some u → w.cell? ⟨g, k * 5 + o, none⟩ = some u := fun o u ho hu => own_cell h.row ((flat_get BlkP.cells_len hk ho).trans hu)
  exact ⟨⟨key 0 _ (by omega) rfl, key 1 _ (by omega) rfl, key 2 _ (by omega) rfl, key 3 _ (by omega) rfl, key 4 _ (by omega) rfl⟩, fun j => row_free h.row j⟩
end
/-- the copy while it is renumbered: arrays, blocks, the box of the function -/
structure RenSt17 (N zb : Nat) (W : World) (f : Fn) (na : Option Addr) (nc gb mc : Nat) (w : World) (l : List BlkP) : Prop where
  arrs : w.ownsRow N 68 2 (.slice na f.arrays.length nc) f.arrays.length (f.arrays.flatMap arrOne)
  blks : BlkOwn N 52 60 w (.slice (some ⟨gb, 0, none⟩) f.blocks.length mc) l
  len : l.length = f.blocks.length
  box : w.heap[zb]? = some (.cells #[.string f.name, .int .i64 f.regs, .slice na f.arrays.length nc, .slice (some ⟨gb, 0, none⟩) f.blocks.length mc] 25)
  bel : Below W.heap.size W w
  ap : (Value.slice na f.arrays.length nc).ownBlock = none ∨ (Value.slice na f.arrays.length nc).ownBlock ≠ some gb
  ac : ∀ p ∈ l, (Value.slice na f.arrays.length nc).ownBlock = none ∨ (Value.slice na f.arrays.length nc).ownBlock ≠ p.code.ownBlock
section
variable {N zb : Nat} {W : World} {f : Fn} {na : Option Addr} {nc gb mc : Nat} {w w' : World} {l : List BlkP}
theorem RenSt17.keep (h : RenSt17 N zb W f na nc gb mc w l) (hB : Below w.heap.size w w') : RenSt17 N zb W f na nc gb mc w' l :=
  { h with arrs := ownsRow_below h.arrs hB, blks := h.blks.keep hB, box := (hB.block _ (lt_heap h.box)).trans h.box, bel := below_next h.bel hB }
theorem RenSt17.setBlk {k o : Nat} {p : BlkP} {q : Blk} {u : Value} (h : RenSt17 N zb W f na nc gb mc w l) (hN : W.heap.size ≤ N) (hk : l[k]? = some p) (ho : o < 5) (hq : q.code = p.blk.code) (hw : q.Wf) (hc : (BlkP.mk q p.a p.c).cells = p.cells.set o u) :
    RenSt17 N zb W f na nc gb mc (w.setCell ⟨gb, k * 5 + o, none⟩ u) (l.set k ⟨q, p.a, p.c⟩) := by
  have hgb : N ≤ gb := (ownsRow_lt h.blks.row rfl).1
  refine ⟨ownsRow_move h.arrs (fun b hb _ => Below.heap_setCell _ _ _ _ (fun e => ?_)), h.blks.setBlk h.len hk ho hq hw hc, by rw [List.length_set]; exact h.len, (Below.heap_setCell _ _ _ _ (fun e => ?_)).trans h.box, h.bel.setCell (by show W.heap.size ≤ gb; omega) _, h.ap, fun r hr => ?_⟩
  · have e : b = gb := e
    rcases h.ap with e1 | e1
    · rw [hb] at e1; cases e1
    · exact e1 (by rw [hb, e])
  · have e : zb = gb := e
    exact ownsRow_ne h.blks.row h.box (by decide) (by rw [e]; rfl)
  · rcases List.mem_or_eq_of_mem_set hr with hr | rfl
    · exact h.ac r hr
    · have : (BlkP.mk q p.a p.c).code = p.code := by unfold BlkP.code; rw [hq]
      rw [this]
      exact h.ac p (List.mem_of_getElem? hk)
theorem RenSt17.setIns {k m o cb : Nat} {p : BlkP} {i i' : Ins} {u : Value} (h : RenSt17 N zb W f na nc gb mc w l) (hN : W.heap.size ≤ N) (hk : l[k]? = some p) (hm : p.blk.code[m]? = some i) (ho : o < 6) (hw : i'.Wf) (hc : i'.cells = i.cells.set o u) (hp : p.a = some ⟨cb, 0, none⟩) :
    RenSt17 N zb W f na nc gb mc (w.setCell ⟨cb, m * 6 + o, none⟩ u) (l.set k ⟨{ p.blk with code := p.blk.code.set m i' }, p.a, p.c⟩) := by
  have hpm := List.mem_of_getElem? hk
  have hcb : p.code.ownBlock = some cb := by unfold BlkP.code; rw [hp]; rfl
  have hcN := ownsRow_lt (h.blks.code p hpm) hcb
  refine ⟨ownsRow_move h.arrs (fun b hb _ => Below.heap_setCell _ _ _ _ (fun e => ?_)), h.blks.setIns hk hm ho hw hc hp, by rw [List.length_set]; exact h.len, (Below.heap_setCell _ _ _ _ (fun e => ?_)).trans h.box, h.bel.setCell (by show W.heap.size ≤ cb; omega) _, h.ap, fun r hr => ?_⟩
  · have e : b = cb := e
    rcases h.ac p hpm with e1 | e1
    · rw [hb] at e1; cases e1
    · exact e1 (by rw [hb, hcb, e])
  · have e : zb = cb := e
    exact ownsRow_ne (h.blks.code p hpm) h.box (by decide) (by rw [e]; exact hcb)
  · rcases List.mem_or_eq_of_mem_set hr with hr | rfl
    · exact h.ac r hr
    · have : (BlkP.mk { p.blk with code := p.blk.code.set m i' } p.a p.c).code = p.code := by unfold BlkP.code; simp
      rw [this]
      exact h.ac p hpm
theorem RenSt17.fnAt {blocks : List Blk} (h : RenSt17 N zb W f na nc gb mc w l) (he : l.map (fun q : BlkP => q.blk) = blocks) (hr : isI64 f.regs) (hn : f.name.size ≤ 9223372036854775807) (hs : ∀ p ∈ f.arrays, p.1.size ≤ 9223372036854775807) (hal : f.arrays.length ≤ 9223372036854775807) (hbl : f.blocks.length ≤ 9223372036854775807) : FnAt w { f with blocks := blocks } na (some ⟨gb, 0, none⟩) := by
  obtain ⟨a1, c1, e1, k1⟩ := arrs_own h.arrs hal hs
  obtain ⟨a2, c2, e2, k2, _⟩ := h.blks.toRow.blks (by rw [h.len]; exact hbl)
  injection e1 with e1
  injection e2 with e2
  subst e1 e2
  rw [he] at k2
  exact ⟨k1, k2, hr, hn⟩
end
theorem arrs_four {f : Fn} {shared : List (ByteArray × Int)} (h : fnOk f shared = true) : f.arrays.length ≤ 4 := by
  obtain ⟨_, _, _, h4, _⟩ := fnOk_parts h
  exact h4
theorem ends_ok17 {f : Fn} {shared : List (ByteArray × Int)} (h : fnOk f shared = true) : ∀ b ∈ f.blocks, b.kind = 2 → 0 ≤ b.x ∧ b.x < f.regs := by
  obtain ⟨_, _, _, _, ns, _, h6⟩ := fnOk_parts h
  intro b hb hk
  have := List.all_eq_true.1 h6 b hb
  unfold blkOk at this
  rw [Bool.and_eq_true] at this
  have := this.2
  unfold endOk at this
  have k1 : (b.kind == 1) = false := by simp [hk]
  have k2 : (b.kind == 2) = true := by simp [hk]
  rw [k1, k2] at this
  simp only [cond_true, cond_false, Bool.and_eq_true, decide_eq_true_eq] at this
  exact ⟨this.1.1.1.1.1, this.1.1.1.1.2⟩
theorem take_map_len {α β : Type} {g : α → β} {l : List α} {k : Nat} (h : k < l.length) : ((l.take k).map g).length = k := by simp; omega
theorem ren_step {t : Int → Int} {l : List Ins} {k : Nat} {q : Ins} (h : l[k]? = some q) : ((l.take k).map (Ins.ren t) ++ l.drop k).set k (q.ren t) = (l.take (k + 1)).map (Ins.ren t) ++ l.drop (k + 1) := by
  obtain ⟨hk, rfl⟩ := List.getElem?_eq_some_iff.1 h
  rw [List.take_succ_eq_append_getElem hk, List.drop_eq_getElem_cons hk, List.map_append, List.append_assoc, List.set_append_right _ _ (by rw [take_map_len hk]; exact Nat.le_refl _), take_map_len hk, Nat.sub_self, List.set_cons_zero]
  rfl
theorem ren_at {t : Int → Int} {l : List Ins} {k : Nat} {q : Ins} (h : l[k]? = some q) : ((l.take k).map (Ins.ren t) ++ l.drop k)[k]? = some q := by
  obtain ⟨hk, rfl⟩ := List.getElem?_eq_some_iff.1 h
  rw [List.getElem?_append_right (by rw [take_map_len hk]; exact Nat.le_refl _), take_map_len hk, Nat.sub_self, List.drop_eq_getElem_cons hk]
  rfl
theorem ren_blocks {t : Int → Int} {bs : List Blk} {l : List BlkP} {j : Nat} {b : Blk} (he : l.map (fun q : BlkP => q.blk) = (bs.take j).map (Blk.ren t) ++ bs.drop j) (hb : bs[j]? = some b) : ∃ p, l[j]? = some p ∧ p.blk = b := by
  obtain ⟨hj, rfl⟩ := List.getElem?_eq_some_iff.1 hb
  have hl : l.length = bs.length := by
    have := congrArg List.length he
    simp at this
    omega
  refine ⟨l[j], List.getElem?_eq_getElem (by omega), ?_⟩
  have : (l.map (fun q : BlkP => q.blk))[j]? = some bs[j] := by
    rw [he, List.getElem?_append_right (by rw [take_map_len hj]; exact Nat.le_refl _), take_map_len hj, Nat.sub_self, List.drop_eq_getElem_cons hj]
    rfl
  rw [List.getElem?_map, List.getElem?_eq_getElem (by omega)] at this
  simpa using this
theorem ren_next {t : Int → Int} {bs : List Blk} {l : List BlkP} {j : Nat} {q : BlkP} {b : Blk} (he : l.map (fun q : BlkP => q.blk) = (bs.take j).map (Blk.ren t) ++ bs.drop j) (hb : bs[j]? = some b) (hq : q.blk = b.ren t) : (l.set j q).map (fun q : BlkP => q.blk) = (bs.take (j + 1)).map (Blk.ren t) ++ bs.drop (j + 1) := by
  obtain ⟨hj, rfl⟩ := List.getElem?_eq_some_iff.1 hb
  rw [List.map_set, he, hq, List.take_succ_eq_append_getElem hj, List.drop_eq_getElem_cons hj, List.map_append, List.append_assoc, List.set_append_right _ _ (by rw [take_map_len hj]; exact Nat.le_refl _), take_map_len hj, Nat.sub_self, List.set_cons_zero]
  rfl
theorem set_at {α : Type} {l : List α} {k : Nat} {x : α} (h : k < l.length) : (l.set k x)[k]? = some x := List.getElem?_set_self h
theorem set_same {α : Type} {l : List α} {k : Nat} {x : α} (h : l[k]? = some x) : l.set k x = l := by
  obtain ⟨hk, rfl⟩ := List.getElem?_eq_some_iff.1 h
  exact List.set_getElem_self hk
/-- a block on its way -/
def RenP (p : BlkP) (x0 : Int) (C : List Ins) : BlkP := ⟨{ p.blk with x := x0, code := C }, p.a, p.c⟩
theorem RenSt17.one {N zb : Nat} {W : World} {f : Fn} {na : Option Addr} {nc gb mc : Nat} {w : World} {l : List BlkP} {j k o cb : Nat} {p : BlkP} {x0 : Int} {C : List Ins} {q q' : Ins} {u : Value} (h : RenSt17 N zb W f na nc gb mc w (l.set j (RenP p x0 C))) (hN : W.heap.size ≤ N) (hjl : j < l.length) (hm : C[k]? = some q) (ho : o < 6) (hw : q'.Wf) (hc : q'.cells = q.cells.set o u) (hp : p.a = some ⟨cb, 0, none⟩) :
    RenSt17 N zb W f na nc gb mc (w.setCell ⟨cb, k * 6 + o, none⟩ u) (l.set j (RenP p x0 (C.set k q'))) := by
  have h1 := h.setIns (k := j) (p := RenP p x0 C) hN (by rw [List.getElem?_set_self hjl]) hm ho hw hc hp
  rw [List.set_set] at h1
  exact h1
theorem RenSt17.cells {N zb : Nat} {W : World} {f : Fn} {na : Option Addr} {nc gb mc : Nat} {w : World} {l : List BlkP} {j k cb : Nat} {p : BlkP} {x0 : Int} {C : List Ins} {q : Ins} (h : RenSt17 N zb W f na nc gb mc w (l.set j (RenP p x0 C))) (hjl : j < l.length) (hm : C[k]? = some q) (hp : p.a = some ⟨cb, 0, none⟩) :
    cb < w.heap.size ∧ InsAt w cb (k * 6) q ∧ ∀ j, w.frozen? ⟨cb, j, none⟩ = false := by
  obtain ⟨cb', hpa, _, h2, h3, h4⟩ := h.blks.insCells (k := j) (p := RenP p x0 C) (by rw [List.getElem?_set_self hjl]) hm
  have hpa : p.a = some ⟨cb', 0, none⟩ := hpa
  rw [hp] at hpa
  have e : cb = cb' := congrArg Addr.block (Option.some.inj hpa)
  subst e
  exact ⟨h2, h3, h4⟩
theorem valid_regs {n : Int} {ns : List (ByteArray × Bool)} {i : Ins} (hi : insOk n ns i = true) : (i.defines.isSome = true → 0 ≤ i.dst ∧ i.dst < n) ∧ (0 < i.uses.length → 0 ≤ i.x ∧ i.x < n) ∧ (1 < i.uses.length → 0 ≤ i.y ∧ i.y < n) := by
  have hop := insOk_op hi
  obtain ⟨op, dst, x, y, imm, sym⟩ := i
  simp only at hop
  rcases hop with rfl | rfl | rfl | rfl | rfl | rfl | rfl | rfl | rfl | rfl | rfl | rfl | rfl | rfl | rfl | rfl <;>
    simp [insOk, Ins.uses, Ins.defines, inReg] at hi ⊢ <;> omega
theorem fn_regs {f : Fn} {shared : List (ByteArray × Int)} (h : fnOk f shared = true) : ∀ b ∈ f.blocks, ∀ i ∈ b.code, (i.defines.isSome = true → 0 ≤ i.dst ∧ i.dst < f.regs) ∧ (0 < i.uses.length → 0 ≤ i.x ∧ i.x < f.regs) ∧ (1 < i.uses.length → 0 ≤ i.y ∧ i.y < f.regs) := by
  obtain ⟨_, _, _, _, ns, _, h6⟩ := fnOk_parts h
  intro b hb i hi
  have := List.all_eq_true.1 h6 b hb
  unfold blkOk at this
  rw [Bool.and_eq_true, List.all_eq_true] at this
  exact valid_regs (this.1 i hi)
end Go.Proofs.Ytjdfcpjlmfaaaaa
