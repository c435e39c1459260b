/-
  Contract: step (package ontimeref17: machine), for every valid instruction.
-/
import Derived.Test.YtjdfcpjlmfaaaaaRefSteps
import Derived.Test.YtjdfcpjlmfaaaaaIrInstr
namespace Go.Proofs.Ytjdfcpjlmfaaaaa
set_option linter.unusedVariables false
set_option linter.unusedSimpArgs false
open Go.RowKit
set_option maxRecDepth 100000

theorem pos_left {A B : List ByteArray} {s : ByteArray} (h : s ∈ A) : pos (A ++ B) s = pos A s := by
  unfold pos
  rw [List.findIdx_append]
  split
  · rfl
  · rename_i hn
    exact absurd (List.findIdx_lt_length_of_exists ⟨s, h, by simp⟩) hn
theorem pos_right {A B : List ByteArray} {s : ByteArray} (h : s ∉ A) : pos (A ++ B) s = A.length + pos B s := by
  unfold pos
  rw [List.findIdx_append]
  split
  · rename_i hn
    rw [List.findIdx_lt_length] at hn
    obtain ⟨x, hx, hx2⟩ := hn
    have : x = s := by simpa using hx2
    exact absurd (this ▸ hx) h
  · omega
theorem rstep_any (N : Nat) (G : RGeo) (f : Fn) (sh : List (ByteArray × Int)) (inp : List Int) (i : Ins) (w : World) (uv : Value) (n : Int) (s : St) (h : RefAt N G sh w uv n 0 s) (hN : N ≤ w.heap.size) (hi : i.Wf) (hok : insOk f.regs (kinds f sh) i = true) (hnd : (fnNames f sh).Nodup) (hr : (s.regs.length : Int) = f.regs)
    (ha : ArrsAt w G.aa f.arrays) (hal : f.arrays.length = G.na) (hs : ArrsAt w G.sa sh) (hsl : sh.length = G.ns) (hin : WordsAt w G.ia inp) (hil : inp.length = G.ni) (hrd : s.read < 8000000000) (hol : s.out.length < 8000000000) :
    Calls Try.prog 41 #[.pointer (some ⟨G.mb, 0, none⟩), i.val] w (RStep N G sh n s w (step (fnNames f sh) inp i s)) := by
  obtain ⟨op, d, x, y, imm, sym⟩ := i
  have hsz : sym.size ≤ 9223372036854775807 := hi.sym
  have reg : ∀ {n : Int}, inReg n f.regs = true → ∃ k : Nat, n = (k : Int) ∧ k < s.regs.length := fun h => by
    obtain ⟨k, h1, h2⟩ := inReg_nat h
    exact ⟨k, h1, by omega⟩
  have cnt : ∀ {n : Int}, betw n 0 3 = true → ∃ k : Nat, n = (k : Int) ∧ k < 4 := fun {n} h => by
    have := betw_iff h
    exact ⟨n.toNat, by omega, by omega⟩
  obtain ⟨l1, l2⟩ := lookB_kinds (f := f) (shared := sh) hnd sym
  have arr : (lookB (kinds f sh) sym == some true) = true → ∃ j : Nat, j < G.na ∧ idx f.arrays sym = (j : Int) ∧ pos (fnNames f sh) sym = j := fun h9 => by
    rw [l1] at h9
    have h9 : 0 ≤ idx f.arrays sym := by simpa using h9
    have hm := idx_pos.1 h9
    refine ⟨pos (f.arrays.map (·.1)) sym, ?_, idx_in hm, by unfold fnNames; exact pos_left hm⟩
    have := pos_lt hm
    rw [List.length_map] at this
    omega
  have obj : (lookB (kinds f sh) sym == some false) = true → sym ∈ sh.map (·.1) ∧ ∃ j : Nat, j < G.ns ∧ idx sh sym = (j : Int) ∧ pos (fnNames f sh) sym = G.na + j := fun h9 => by
    rw [l2] at h9
    have h9 : 0 ≤ idx sh sym := by simpa using h9
    have hm := idx_pos.1 h9
    refine ⟨hm, pos (sh.map (·.1)) sym, ?_, idx_in hm, ?_⟩
    · have := pos_lt hm
      rw [List.length_map] at this
      omega
    · unfold fnNames at hnd ⊢
      rw [pos_right (fun h => (List.nodup_append.1 hnd).2.2 sym h sym hm rfl), List.length_map, hal]
  unfold insOk at hok
  simp only at hok
  by_cases h1 : op = 1
  · subst h1
    simp only [beq_self_eq_true, cond_true, Bool.and_eq_true] at hok
    obtain ⟨⟨⟨⟨a1, a2⟩, a3⟩, a4⟩, a5⟩ := hok
    obtain ⟨d, rfl, hd⟩ := reg a1
    obtain ⟨b1, b2⟩ := betw_iff a2
    exact rstep_1 N G sh _ inp d _ _ imm sym w uv n s h hN hd b1 b2
  have h1' : (op == 1) = false := by simpa using h1
  rw [h1', cond_false] at hok
  by_cases h2 : op = 2
  · subst h2
    simp only [beq_self_eq_true, cond_true, Bool.and_eq_true] at hok
    obtain ⟨⟨⟨⟨a1, a2⟩, a3⟩, a4⟩, a5⟩ := hok
    obtain ⟨d, rfl, hd⟩ := reg a1
    obtain ⟨x, rfl, hx⟩ := reg a2
    exact rstep_2 N G sh _ inp d x _ imm sym w uv n s h hN hd hx
  have h2' : (op == 2) = false := by simpa using h2
  rw [h2', cond_false] at hok
  by_cases h3 : op = 3
  · subst h3
    simp only [beq_self_eq_true, cond_true, Bool.and_eq_true] at hok
    obtain ⟨⟨⟨⟨a1, a2⟩, a3⟩, a4⟩, a5⟩ := hok
    obtain ⟨d, rfl, hd⟩ := reg a1
    obtain ⟨x, rfl, hx⟩ := reg a2
    obtain ⟨y, rfl, hy⟩ := reg a3
    obtain ⟨b1, b2⟩ := betw_iff a4
    exact rstep_3 N G sh _ inp d x y imm sym w uv n s h hN hd hx hy b1 b2
  have h3' : (op == 3) = false := by simpa using h3
  rw [h3', cond_false] at hok
  by_cases h4 : op = 4 ∨ op = 6
  · have h4' : (op == 4 || op == 6) = true := by simpa using h4
    rw [h4', cond_true] at hok
    simp only [Bool.and_eq_true] at hok
    obtain ⟨⟨⟨⟨a1, a2⟩, a3⟩, a4⟩, a5⟩ := hok
    obtain ⟨d, rfl, hd⟩ := reg a1
    obtain ⟨x, rfl, hx⟩ := reg a2
    rcases h4 with rfl | rfl
    · obtain ⟨j, hj, e1, e2⟩ := arr a3
      exact rstep_4 N G sh _ inp d x _ imm sym w uv n s h hN hd hx f.arrays ha hal hs hsl j hj e1 e2
    · obtain ⟨_, j, hj, e1, e2⟩ := obj a3
      exact rstep_6 N G sh _ inp d x _ imm sym w uv n s h hN hd hx f.arrays ha hal hs hsl j hj e1 e2
  have h4' : (op == 4 || op == 6) = false := by simpa using h4
  rw [h4', cond_false] at hok
  by_cases h5 : op = 5 ∨ op = 7
  · have h5' : (op == 5 || op == 7) = true := by simpa using h5
    rw [h5', cond_true] at hok
    simp only [Bool.and_eq_true] at hok
    obtain ⟨⟨⟨⟨a1, a2⟩, a3⟩, a4⟩, a5⟩ := hok
    obtain ⟨x, rfl, hx⟩ := reg a1
    obtain ⟨y, rfl, hy⟩ := reg a2
    rcases h5 with rfl | rfl
    · obtain ⟨j, hj, e1, e2⟩ := arr a3
      exact rstep_5 N G sh _ inp _ x y imm sym w uv n s h hN hx hy f.arrays ha hal hs hsl j hj e1 e2
    · obtain ⟨_, j, hj, e1, e2⟩ := obj a3
      exact rstep_7 N G sh _ inp _ x y imm sym w uv n s h hN hx hy f.arrays ha hal hs hsl j hj e1 e2
  have h5' : (op == 5 || op == 7) = false := by simpa using h5
  rw [h5', cond_false] at hok
  by_cases h8 : op = 8
  · subst h8
    simp only [beq_self_eq_true, cond_true, Bool.and_eq_true] at hok
    obtain ⟨⟨⟨⟨a1, a2⟩, a3⟩, a4⟩, a5⟩ := hok
    obtain ⟨x, rfl, hx⟩ := reg a1
    obtain ⟨b1, b2⟩ := betw_iff a2
    exact rstep_8 N G sh _ inp _ x _ imm sym w uv n s h hN hx (by omega) b2
  have h8' : (op == 8) = false := by simpa using h8
  rw [h8', cond_false] at hok
  by_cases h9 : op = 9
  · subst h9
    simp only [beq_self_eq_true, cond_true, Bool.and_eq_true] at hok
    obtain ⟨⟨⟨⟨a1, a2⟩, a3⟩, a4⟩, a5⟩ := hok
    obtain ⟨d, rfl, hd⟩ := reg a1
    exact rstep_9 N G sh _ inp d _ _ imm sym w uv n s h hN hd hin hil hrd
  have h9' : (op == 9) = false := by simpa using h9
  rw [h9', cond_false] at hok
  by_cases h10 : op = 10
  · subst h10
    simp only [beq_self_eq_true, cond_true, Bool.and_eq_true] at hok
    obtain ⟨⟨⟨⟨a1, a2⟩, a3⟩, a4⟩, a5⟩ := hok
    obtain ⟨x, rfl, hx⟩ := reg a1
    exact rstep_10 N G sh _ inp _ x _ imm sym w uv n s h hN hx hol
  have h10' : (op == 10) = false := by simpa using h10
  rw [h10', cond_false] at hok
  by_cases h11 : op = 11 ∨ op = 12
  · have h11' : (op == 11 || op == 12) = true := by simpa using h11
    rw [h11', cond_true] at hok
    simp only [Bool.and_eq_true] at hok
    obtain ⟨⟨⟨⟨a1, a2⟩, a3⟩, a4⟩, a5⟩ := hok
    obtain ⟨hm, _⟩ := obj a1
    rcases h11 with rfl | rfl
    · cases hl : s.locked with
      | true => exact rstep_11t N G sh _ inp _ _ _ imm sym w uv n s h hN hl (idx_pos.2 (h.lk hl))
      | false => exact rstep_11f N G sh _ inp _ _ _ imm sym w uv n s h hN hl hsz hs hsl hm
    · exact rstep_12 N G sh _ inp _ _ _ imm sym w uv n s h hN hsz hs hsl hm
  have h11' : (op == 11 || op == 12) = false := by simpa using h11
  rw [h11', cond_false] at hok
  by_cases h13 : op = 13 ∨ op = 14
  · have h13' : (op == 13 || op == 14) = true := by simpa using h13
    rw [h13', cond_true] at hok
    simp only [Bool.and_eq_true] at hok
    obtain ⟨⟨⟨⟨a1, a2⟩, a3⟩, a4⟩, a5⟩ := hok
    obtain ⟨c, rfl, hc⟩ := cnt a1
    rcases h13 with rfl | rfl
    · exact rstep_13 N G sh _ inp _ _ _ c sym w uv n s h hN hc
    · exact rstep_14 N G sh _ inp _ _ _ c sym w uv n s h hN hc
  have h13' : (op == 13 || op == 14) = false := by simpa using h13
  rw [h13', cond_false] at hok
  by_cases h15 : op = 15
  · subst h15
    simp only [beq_self_eq_true, cond_true, Bool.and_eq_true] at hok
    obtain ⟨⟨⟨⟨a1, a2⟩, a3⟩, a4⟩, a5⟩ := hok
    obtain ⟨d, rfl, hd⟩ := reg a1
    obtain ⟨c, rfl, hc⟩ := cnt a2
    exact rstep_15 N G sh _ inp d _ _ c sym w uv n s h hN hd hc
  have h15' : (op == 15) = false := by simpa using h15
  rw [h15', cond_false] at hok
  by_cases h16 : op = 16
  · subst h16
    simp only [beq_self_eq_true, cond_true, Bool.and_eq_true] at hok
    obtain ⟨⟨⟨⟨a1, a2⟩, a3⟩, a4⟩, a5⟩ := hok
    obtain ⟨c, rfl, hc⟩ := cnt a1
    obtain ⟨b1, b2⟩ := betw_iff a2
    exact rstep_16 N G sh _ inp _ c _ imm sym w uv n s h hN hc (by omega) b2
  have h16' : (op == 16) = false := by simpa using h16
  rw [h16', cond_false] at hok
  cases hok
end Go.Proofs.Ytjdfcpjlmfaaaaa
