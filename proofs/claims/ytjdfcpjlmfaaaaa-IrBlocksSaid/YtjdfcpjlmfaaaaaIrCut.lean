/-
  Runs of changed functions (layer 17): a block that nothing reaches, the entry split in two by a jump (plain); the first block of a copied function cut in two, in memory.
-/
import Derived.Test.YtjdfcpjlmfaaaaaIrOwn
import Derived.Test.YtjdfcpjlmfaaaaaIrFinish
import Derived.Test.YtjdfcpjlmfaaaaaIrStep
import Derived.Test.YtjdfcpjlmfaaaaaIrSame
namespace Go.Proofs.Ytjdfcpjlmfaaaaa
set_option linter.unusedVariables false
set_option linter.unusedSimpArgs false
open Go.RowKit
set_option maxRecDepth 100000

theorem endOk_mono {regs : Int} {n m : Nat} {b : Blk} (h : endOk regs n b = true) (hn : n ≤ m) : endOk regs m b = true := by
  unfold endOk at *
  cases h1 : (b.kind == 1) <;> rw [h1] at h <;> simp only [cond_true, cond_false] at *
  · cases h2 : (b.kind == 2) <;> rw [h2] at h <;> simp only [cond_true, cond_false] at *
    · exact h
    · simp only [Bool.and_eq_true, decide_eq_true_eq] at *
      omega
  · simp only [Bool.and_eq_true, decide_eq_true_eq] at *
    exact ⟨⟨⟨h.1.1.1, by omega⟩, h.1.2⟩, h.2⟩
theorem endOk_next {regs : Int} {n : Nat} {b : Blk} (h : endOk regs n b = true) (hk : ¬ b.kind = 3) (s : St) : b.next s < n := by
  unfold endOk at h
  unfold Blk.next
  cases h1 : (b.kind == 1) <;> rw [h1] at h <;> simp only [cond_true, cond_false] at *
  · cases h2 : (b.kind == 2) <;> rw [h2] at h <;> simp only [cond_true, cond_false] at *
    · cases h3 : (b.kind == 3) <;> rw [h3] at h <;> simp only [cond_true, cond_false] at *
      · cases h
      · exact absurd (by simpa using h3) hk
    · simp only [Bool.and_eq_true, decide_eq_true_eq] at h
      split <;> omega
  · simp only [Bool.and_eq_true, decide_eq_true_eq] at h
    have h2 : ¬ b.kind = 2 := by
      have : b.kind = 1 := by simpa using h1
      omega
    rw [if_neg (fun e => h2 e.1)]
    omega
/-- every block's end is in range -/
def EndsOk (regs : Int) (blocks : List Blk) : Prop := ∀ b ∈ blocks, endOk regs blocks.length b = true
theorem ends_ok {f : Fn} {shared : List (ByteArray × Int)} (h : fnOk f shared = true) : EndsOk f.regs f.blocks := by
  obtain ⟨_, _, _, _, ns, _, h6⟩ := fnOk_parts h
  intro b hb
  have := List.all_eq_true.1 h6 b hb
  unfold blkOk at this
  rw [Bool.and_eq_true] at this
  exact this.2
/-- a block that nothing reaches -/
theorem go_ext {blocks : List Blk} {names : List ByteArray} {inp : List Int} {regs : Int} (e : Blk) (hE : EndsOk regs blocks) : ∀ (n at_ k : Nat) (s : St), at_ < blocks.length → go (blocks ++ [e]) names inp n at_ k s = go blocks names inp n at_ k s := by
  intro n
  induction n with
  | zero => intro at_ k s _; rfl
  | succ n ih =>
    intro at_ k s ha
    unfold go
    rw [List.getElem?_append_left ha]
    have hb := List.getElem?_eq_getElem ha
    rw [hb]
    simp only
    split
    · split
      · rfl
      · rw [ih _ _ _ ha]
    · split
      · rfl
      · rename_i hk
        rw [ih _ _ _ (endOk_next (hE _ (List.getElem_mem ha)) hk s)]
/-- the entry, cut at a place -/
def splitBlocks (blocks : List Blk) (b0 : Blk) (k : Nat) : List Blk := blocks.set 0 ⟨b0.code.take k, 1, 0, blocks.length, 0⟩ ++ [{ b0 with code := b0.code.drop k }]
/-- where a run of the cut function stands -/
def SplitPos (n k at_ kk at' kk' : Nat) : Prop := (at_ ≠ 0 ∧ at' = at_ ∧ kk' = kk) ∨ (at_ = 0 ∧ at' = 0 ∧ kk' = kk ∧ kk ≤ k) ∨ (at_ = 0 ∧ at' = n ∧ k ≤ kk ∧ kk' = kk - k)
theorem go_split {blocks : List Blk} {names : List ByteArray} {inp : List Int} {regs : Int} {b0 : Blk} {k : Nat} (hE : EndsOk regs blocks) (h0 : blocks[0]? = some b0) (hk : k ≤ b0.code.length) :
    ∀ (n at_ kk at' kk' fuel : Nat) (s : St), at_ < blocks.length → SplitPos blocks.length k at_ kk at' kk' → 2 * n ≤ fuel → (go blocks names inp n at_ kk s).2.1 ≠ 13 →
      (go (splitBlocks blocks b0 k) names inp fuel at' kk' s).2 = (go blocks names inp n at_ kk s).2 ∧ (go blocks names inp n at_ kk s).1 ≤ (go (splitBlocks blocks b0 k) names inp fuel at' kk' s).1 := by
  have hlen : (blocks.set 0 ⟨b0.code.take k, 1, 0, blocks.length, 0⟩).length = blocks.length := by simp
  have hpos : 0 < blocks.length := (List.getElem?_eq_some_iff.1 h0).1
  have q0 : (splitBlocks blocks b0 k)[0]? = some ⟨b0.code.take k, 1, 0, blocks.length, 0⟩ := by
    unfold splitBlocks
    rw [List.getElem?_append_left (by omega)]
    simp [hpos]
  have qn : (splitBlocks blocks b0 k)[blocks.length]? = some { b0 with code := b0.code.drop k } := by
    unfold splitBlocks
    rw [List.getElem?_append_right (by omega), hlen]
    simp
  have qo : ∀ i, i ≠ 0 → i < blocks.length → (splitBlocks blocks b0 k)[i]? = blocks[i]? := fun i hi hl => by
    unfold splitBlocks
    rw [List.getElem?_append_left (by omega), List.getElem?_set_ne (by omega)]
  intro n
  induction n with
  | zero => intro at_ kk at' kk' fuel s _ _ _ h; exact absurd rfl h
  | succ n ih =>
    -- one step from a block of the cut function with the same code at its place
    have one : ∀ (at_ kk at' kk' fuel : Nat) (s : St) (b b' : Blk), blocks[at_]? = some b → (splitBlocks blocks b0 k)[at']? = some b' → b'.code[kk']? = b.code[kk]? → (b.code[kk]? = none → b'.kind = b.kind ∧ b'.x = b.x ∧ b'.to = b.to ∧ b'.els = b.els) →
        (b.code[kk]? ≠ none → SplitPos blocks.length k at_ (kk + 1) at' (kk' + 1)) → at_ < blocks.length → 2 * n ≤ fuel → (go blocks names inp (n + 1) at_ kk s).2.1 ≠ 13 →
        (go (splitBlocks blocks b0 k) names inp (fuel + 1) at' kk' s).2 = (go blocks names inp (n + 1) at_ kk s).2 ∧ (go blocks names inp (n + 1) at_ kk s).1 ≤ (go (splitBlocks blocks b0 k) names inp (fuel + 1) at' kk' s).1 := by
      intro at_ kk at' kk' fuel s b b' hb hb' hc hend hsp ha hf hne
      unfold go at hne ⊢
      rw [hb] at hne ⊢
      rw [hb']
      simp only at hne ⊢
      rw [hc]
      cases hi : b.code[kk]? with
      | some i =>
        rw [hi] at hne
        simp only at hne ⊢
        cases hs : step names inp i s with
        | error e => exact ⟨rfl, Nat.le_refl _⟩
        | ok s' =>
          rw [hs] at hne
          simp only at hne ⊢
          obtain ⟨r1, r2⟩ := ih at_ (kk + 1) at' (kk' + 1) fuel s' ha (hsp (by rw [hi]; simp)) hf hne
          exact ⟨r1, by omega⟩
      | none =>
        rw [hi] at hne
        obtain ⟨e1, e2, e3, e4⟩ := hend hi
        simp only at hne ⊢
        rw [e1]
        by_cases h3 : b.kind = 3
        · rw [if_pos h3, if_pos h3]
          exact ⟨rfl, Nat.le_refl _⟩
        · rw [if_neg h3] at hne
          rw [if_neg h3, if_neg h3]
          have en : b'.next s = b.next s := by unfold Blk.next; rw [e1, e2, e3, e4]
          rw [en]
          have hnx := endOk_next (hE b (List.mem_of_getElem? hb)) h3 s
          have hp : SplitPos blocks.length k (b.next s) 0 (b.next s) 0 := by
            by_cases hz : b.next s = 0
            · exact .inr (.inl ⟨hz, hz, rfl, Nat.zero_le _⟩)
            · exact .inl ⟨hz, rfl, rfl⟩
          obtain ⟨r1, r2⟩ := ih (b.next s) 0 (b.next s) 0 fuel s hnx hp hf hne
          exact ⟨r1, by omega⟩
    intro at_ kk at' kk' fuel s ha hpos' hf hne
    obtain ⟨fuel, rfl⟩ : ∃ f', fuel = f' + 1 := ⟨fuel - 1, by omega⟩
    -- behind the cut
    have behind : ∀ (kk fuel : Nat) (s : St), k ≤ kk → 2 * n ≤ fuel → (go blocks names inp (n + 1) 0 kk s).2.1 ≠ 13 →
        (go (splitBlocks blocks b0 k) names inp (fuel + 1) blocks.length (kk - k) s).2 = (go blocks names inp (n + 1) 0 kk s).2 ∧ (go blocks names inp (n + 1) 0 kk s).1 ≤ (go (splitBlocks blocks b0 k) names inp (fuel + 1) blocks.length (kk - k) s).1 := by
      intro kk fuel s h1 h2 h3
      refine one 0 kk blocks.length (kk - k) fuel s b0 _ h0 qn ?_ (fun _ => ⟨rfl, rfl, rfl, rfl⟩) (fun _ => .inr (.inr ⟨rfl, rfl, by omega, by omega⟩)) hpos h2 h3
      rw [List.getElem?_drop, show k + (kk - k) = kk from by omega]
    rcases hpos' with ⟨h1, rfl, rfl⟩ | ⟨rfl, rfl, rfl, h4⟩ | ⟨rfl, rfl, h3, rfl⟩
    · obtain ⟨b, hb⟩ : ∃ b, blocks[at']? = some b := ⟨_, List.getElem?_eq_getElem ha⟩
      exact one at' kk' at' kk' fuel s b b hb ((qo _ h1 ha).trans hb) rfl (fun _ => ⟨rfl, rfl, rfl, rfl⟩) (fun _ => .inl ⟨h1, rfl, rfl⟩) ha (by omega) hne
    · rcases Nat.lt_or_ge kk' k with hlt | hge
      · refine one 0 kk' 0 kk' fuel s b0 _ h0 q0 ?_ (fun hn => ?_) (fun _ => .inr (.inl ⟨rfl, rfl, rfl, by omega⟩)) hpos (by omega) hne
        · show (b0.code.take k)[kk']? = _
          rw [List.getElem?_take, if_pos hlt]
        · have := List.getElem?_eq_none_iff.1 hn
          omega
      · obtain rfl : kk' = k := by omega
        obtain ⟨fuel, rfl⟩ : ∃ f', fuel = f' + 1 := ⟨fuel - 1, by omega⟩
        obtain ⟨r1, r2⟩ := behind kk' fuel s (Nat.le_refl _) (by omega) hne
        rw [Nat.sub_self] at r1 r2
        have step0 : go (splitBlocks blocks b0 kk') names inp (fuel + 1 + 1) 0 kk' s = ((go (splitBlocks blocks b0 kk') names inp (fuel + 1) blocks.length 0 s).1 + 1, (go (splitBlocks blocks b0 kk') names inp (fuel + 1) blocks.length 0 s).2) := by
          rw [go, q0]
          simp only
          have : (b0.code.take kk')[kk']? = none := by rw [List.getElem?_take, if_neg (by omega)]
          rw [this]
          simp [Blk.next]
        rw [step0]
        exact ⟨r1, by simp only; omega⟩
    · exact behind kk fuel s h3 (by omega) hne
/-! ### functions -/
theorem fnOk_ext {f : Fn} {shared : List (ByteArray × Int)} (h : fnOk f shared = true) : fnOk { f with blocks := f.blocks ++ [⟨[], 3, 0, 0, 0⟩] } shared = true := by
  obtain ⟨h1, h2, h3, h4, ns, h5, h6⟩ := fnOk_parts h
  unfold fnOk
  have hn : namesOf { f with blocks := f.blocks ++ [⟨[], 3, 0, 0, 0⟩] } shared = some ns := h5
  rw [hn, decide_eq_true h2, decide_eq_true h3, decide_eq_true h4]
  simp only [List.length_append, List.length_singleton]
  have : (f.blocks.length + 1 == 0) = false := rfl
  rw [this]
  simp only [Bool.not_false, Bool.true_and, List.all_append, Bool.and_eq_true]
  refine ⟨?_, by simp [blkOk, endOk]⟩
  rw [List.all_eq_true] at *
  intro b hb
  have := h6 b hb
  unfold blkOk at *
  rw [Bool.and_eq_true] at *
  exact ⟨this.1, endOk_mono this.2 (by simp)⟩
theorem fnOk_split {f : Fn} {shared : List (ByteArray × Int)} {b0 : Blk} {k : Nat} (h : fnOk f shared = true) (h0 : f.blocks[0]? = some b0) : fnOk { f with blocks := splitBlocks f.blocks b0 k } shared = true := by
  obtain ⟨h1, h2, h3, h4, ns, h5, h6⟩ := fnOk_parts h
  unfold fnOk
  have hn : namesOf { f with blocks := splitBlocks f.blocks b0 k } shared = some ns := h5
  have hl : (splitBlocks f.blocks b0 k).length = f.blocks.length + 1 := by simp [splitBlocks]
  rw [hn, decide_eq_true h2, decide_eq_true h3, decide_eq_true h4]
  simp only
  rw [hl]
  have : (f.blocks.length + 1 == 0) = false := rfl
  rw [this]
  simp only [Bool.not_false, Bool.true_and]
  rw [List.all_eq_true] at *
  have hb0 := h6 b0 (List.mem_of_getElem? h0)
  unfold blkOk at hb0
  rw [Bool.and_eq_true, List.all_eq_true] at hb0
  intro b hb
  have key : ∀ b, b.code.all (insOk f.regs ns) = true → endOk f.regs (f.blocks.length + 1) b = true → blkOk { f with blocks := splitBlocks f.blocks b0 k } ns b = true := by
    intro b h1 h2
    unfold blkOk
    rw [Bool.and_eq_true]
    exact ⟨h1, by rw [show ({ f with blocks := splitBlocks f.blocks b0 k } : Fn).blocks.length = f.blocks.length + 1 from hl]; exact h2⟩
  unfold splitBlocks at hb
  rcases List.mem_append.1 hb with hb | hb
  · rcases List.mem_or_eq_of_mem_set hb with hb | rfl
    · have := h6 b hb
      unfold blkOk at this
      rw [Bool.and_eq_true] at this
      exact key b this.1 (endOk_mono this.2 (by omega))
    · refine key _ ?_ (by simp [endOk]; omega)
      rw [List.all_eq_true]
      exact fun i hi => hb0.1 i (List.take_subset _ _ hi)
  · obtain rfl : b = { b0 with code := b0.code.drop k } := by simpa using hb
    refine key _ ?_ (endOk_mono (b := b0) hb0.2 (by omega))
    rw [List.all_eq_true]
    exact fun i hi => hb0.1 i (List.drop_subset _ _ hi)
theorem run_ext {f : Fn} {shared : List (ByteArray × Int)} {arrays objects : List (List Int)} {inp : List Int} {fuel : Int} (h : fnOk f shared = true) :
    runOf { f with blocks := f.blocks ++ [⟨[], 3, 0, 0, 0⟩] } shared arrays objects inp fuel = runOf f shared arrays objects inp fuel := by
  obtain ⟨h1, _⟩ := fnOk_parts h
  have e1 : runFits { f with blocks := f.blocks ++ [⟨[], 3, 0, 0, 0⟩] } shared arrays objects = runFits f shared arrays objects := by unfold runFits; rw [fnOk_ext h, h]
  have e2 : runGo { f with blocks := f.blocks ++ [⟨[], 3, 0, 0, 0⟩] } shared arrays objects inp fuel = runGo f shared arrays objects inp fuel := go_ext _ (ends_ok h) _ _ _ _ h1
  unfold runOf
  rw [e1, e2]
theorem run_split {f : Fn} {shared : List (ByteArray × Int)} {arrays objects : List (List Int)} {inp : List Int} {b0 : Blk} {k : Nat} (h : fnOk f shared = true) (h0 : f.blocks[0]? = some b0) (hk : k ≤ b0.code.length) :
    (runOf f shared arrays objects inp 300).err = 13 ∨ ∃ n, (runOf f shared arrays objects inp 300).steps ≤ n ∧ runOf { f with blocks := splitBlocks f.blocks b0 k } shared arrays objects inp 700 = { runOf f shared arrays objects inp 300 with steps := n } := by
  have e1 : runFits { f with blocks := splitBlocks f.blocks b0 k } shared arrays objects = runFits f shared arrays objects := by unfold runFits; rw [fnOk_split h h0, h]
  unfold runOf
  rw [e1]
  cases hf : runFits f shared arrays objects with
  | false => exact .inr ⟨0, Nat.le_refl _, rfl⟩
  | true =>
    simp only [cond_true]
    by_cases h13 : (runGo f shared arrays objects inp 300).2.1 = 13
    · exact .inl h13
    · refine .inr ⟨(runGo { f with blocks := splitBlocks f.blocks b0 k } shared arrays objects inp 700).1, ?_⟩
      obtain ⟨r1, r2⟩ := go_split (names := fnNames f shared) (inp := inp) (ends_ok h) h0 hk (300 : Int).toNat 0 0 0 0 (700 : Int).toNat (St.init f.regs.toNat (arrays ++ objects)) (List.getElem?_eq_some_iff.1 h0).1 (.inr (.inl ⟨rfl, rfl, rfl, Nat.zero_le _⟩)) (by decide) h13
      refine ⟨r2, ?_⟩
      have r1' : (runGo { f with blocks := splitBlocks f.blocks b0 k } shared arrays objects inp 700).2 = (runGo f shared arrays objects inp 300).2 := r1
      rw [r1']

/-! ### in memory -/
theorem CodeAt.take {w : World} {a : Option Addr} {l : List Ins} (h : CodeAt w a l) (k : Nat) : CodeAt w a (l.take k) := by
  refine ⟨Nat.le_trans (List.length_take_le' k l) h.fits, fun i hi => h.wf i (List.take_subset _ _ hi), ?_⟩
  rcases h.at_ with h0 | ⟨b, off, ha, hc⟩
  · exact .inl (by simp [List.length_eq_zero_iff.1 h0])
  · refine .inr ⟨b, off, ha, fun j i hj => hc j i ?_⟩
    rw [List.getElem?_take] at hj
    split at hj
    · exact hj
    · cases hj
theorem CodeAt.drop {w : World} {b off : Nat} {l : List Ins} (h : CodeAt w (some ⟨b, off, none⟩) l) (k : Nat) : CodeAt w (some ⟨b, off + k * 6, none⟩) (l.drop k) := by
  refine ⟨Nat.le_trans (by simp) h.fits, fun i hi => h.wf i (List.drop_subset _ _ hi), ?_⟩
  rcases h.at_ with h0 | ⟨b', off', ha, hc⟩
  · exact .inl (by simp [List.length_eq_zero_iff.1 h0])
  · cases ha
    refine .inr ⟨b, off + k * 6, rfl, fun j i hj => ?_⟩
    rw [List.getElem?_drop] at hj
    have := hc (k + j) i hj
    rwa [show off + (k + j) * 6 = off + k * 6 + j * 6 by rw [Nat.add_mul]; omega] at this
theorem CodeAt.none {w : World} {a : Option Addr} : CodeAt w a [] := ⟨Nat.zero_le _, fun i hi => (by cases hi), .inl rfl⟩
section
variable {N : Nat} {T : TypeId} {w w' : World} {v : Value} {l : List BlkP}
theorem BlkRow.pushAt {V w2 : World} {p : BlkP} {gb cap : Nat} (h : BlkRow N T w v l) (hB : Below w.heap.size w V) (hw : p.blk.Wf) (hc : CodeAt V p.a p.blk.code) (hl : LiesIn N V.heap.size p.a) (ha : ∀ d, p.a = some d → v.ownBlock ≠ some d.block)
    (hg : V.grownBy w2 v.ownBlock) (ho : w2.ownsRow N T 5 (.slice (some ⟨gb, 0, none⟩) (l.length + 1) cap) (l.length + 1) (l.flatMap BlkP.cells ++ p.cells)) (hp : v.ownBlock = some gb ∨ V.heap.size ≤ gb) :
    BlkRow N T w2 (.slice (some ⟨gb, 0, none⟩) (l.length + 1) cap) (l ++ [p]) := by
  have hk : BlkRow N T V v l := h.keep hB
  have all : ∀ q ∈ l ++ [p], q.blk.Wf ∧ CodeAt V q.a q.blk.code ∧ LiesIn N V.heap.size q.a ∧ ∀ d, q.a = some d → v.ownBlock ≠ some d.block := by
    intro q hq
    rcases List.mem_append.1 hq with hq | hq
    · exact ⟨hk.wf q hq, hk.code q hq, hk.lies q hq, hk.apart q hq⟩
    · obtain rfl : q = p := by simpa using hq
      exact ⟨hw, hc, hl, ha⟩
  refine ⟨by rw [List.length_append, flat_snoc]; exact ho, fun q hq => (all q hq).1, fun q hq => (all q hq).2.1.move (fun d hd hl => hg.block _ hl (fun e => (all q hq).2.2.2 d hd e.symm)), fun q hq => (all q hq).2.2.1.mono (Nat.le_refl _) hg.size, fun q hq d hd e => ?_⟩
  have e1 : gb = d.block := by injection e
  rcases hp with hp | hp
  · exact (all q hq).2.2.2 d hd (by rw [hp, e1])
  · have := ((all q hq).2.2.1 d hd).2
    omega
theorem flat_set0 {α : Type} {f : α → List Value} {l : List α} {p q : α} (h : l[0]? = some p) : (l.set 0 q).flatMap f = f q ++ (l.flatMap f).drop (f p).length := by
  match l, h with
  | x :: l, h =>
    cases h
    simp
/-- the first block of a row is set -/
theorem BlkRow.set0 {hb n c : Nat} {p q : BlkP} (h : BlkRow N T w (.slice (some ⟨hb, 0, none⟩) n c) l) (hn : l.length = n) (h0 : l[0]? = some p) (hw : q.blk.Wf) (hc : CodeAt w q.a q.blk.code) (hl : LiesIn N w.heap.size q.a) (ha : ∀ d, q.a = some d → hb ≠ d.block) :
    BlkRow N T (((((w.setCell ⟨hb, 0, none⟩ (.slice q.a q.blk.code.length q.c)).setCell ⟨hb, 1, none⟩ (.int .u8 q.blk.kind)).setCell ⟨hb, 2, none⟩ (.int .i64 q.blk.x)).setCell ⟨hb, 3, none⟩ (.int .i64 q.blk.to)).setCell ⟨hb, 4, none⟩ (.int .i64 q.blk.els)) (.slice (some ⟨hb, 0, none⟩) n c) (l.set 0 q) := by
  subst hn
  have hpos : 0 < l.length := (List.getElem?_eq_some_iff.1 h0).1
  have other : ∀ k, k ≠ hb → (((((w.setCell ⟨hb, 0, none⟩ (.slice q.a q.blk.code.length q.c)).setCell ⟨hb, 1, none⟩ (.int .u8 q.blk.kind)).setCell ⟨hb, 2, none⟩ (.int .i64 q.blk.x)).setCell ⟨hb, 3, none⟩ (.int .i64 q.blk.to)).setCell ⟨hb, 4, none⟩ (.int .i64 q.blk.els)).heap[k]? = w.heap[k]? := fun k hk => by
    rw [Below.heap_setCell _ _ _ _ hk, Below.heap_setCell _ _ _ _ hk, Below.heap_setCell _ _ _ _ hk, Below.heap_setCell _ _ _ _ hk, Below.heap_setCell _ _ _ _ hk]
  have all : ∀ r ∈ l.set 0 q, r.blk.Wf ∧ CodeAt w r.a r.blk.code ∧ LiesIn N w.heap.size r.a ∧ ∀ d, r.a = some d → hb ≠ d.block := by
    intro r hr
    rcases List.mem_or_eq_of_mem_set hr with hr | rfl
    · exact ⟨h.wf r hr, h.code r hr, h.lies r hr, fun d hd e => h.apart r hr d hd (by rw [← e]; rfl)⟩
    · exact ⟨hw, hc, hl, ha⟩
  have row := ownsRow_set (u := .int .i64 q.blk.els) (j := 4) (ownsRow_set (u := .int .i64 q.blk.to) (j := 3) (ownsRow_set (u := .int .i64 q.blk.x) (j := 2) (ownsRow_set (u := .int .u8 q.blk.kind) (j := 1) (ownsRow_set (u := .slice q.a q.blk.code.length q.c) (j := 0) h.row (by omega)) (by omega)) (by omega)) (by omega)) (by omega)
  refine ⟨?_, fun r hr => (all r hr).1, fun r hr => (all r hr).2.1.move (fun d hd _ => other _ (fun e => (all r hr).2.2.2 d hd e.symm)), fun r hr => (all r hr).2.2.1.mono (Nat.le_refl _) (by simp), fun r hr d hd e => (all r hr).2.2.2 d hd (by injection e)⟩
  rw [List.length_set, flat_set0 h0]
  have e : l.flatMap BlkP.cells = p.cells ++ (l.flatMap BlkP.cells).drop p.cells.length := by
    have := flat_set0 (q := p) (f := BlkP.cells) h0
    have e2 : l.set 0 p = l := by
      match l, h0 with
      | x :: l, h0 => cases h0; rfl
    rwa [e2] at this
  rw [e] at row
  simpa [BlkP.cells] using row
end
/-- the first block of a copy -/
structure FirstAt (N : Nat) (w : World) (hb : Nat) (p : BlkP) (b0 : Blk) : Prop where
  eq : p.blk = b0
  lo : N ≤ hb
  hi : hb < w.heap.size
  cells : w.cell? ⟨hb, 0, none⟩ = some (.slice p.a b0.code.length p.c) ∧ w.cell? ⟨hb, 1, none⟩ = some (.int .u8 b0.kind) ∧ w.cell? ⟨hb, 2, none⟩ = some (.int .i64 b0.x) ∧ w.cell? ⟨hb, 3, none⟩ = some (.int .i64 b0.to) ∧ w.cell? ⟨hb, 4, none⟩ = some (.int .i64 b0.els)
  free : ∀ i, w.frozen? ⟨hb, i, none⟩ = false
  cap : b0.code.length ≤ p.c
  nil : p.a = none → p.c = 0
  at0 : ∀ d, p.a = some d → d.off = 0 ∧ d.spot = none
  code : CodeAt w p.a b0.code
  lies : LiesIn N w.heap.size p.a
  ne : ∀ d, p.a = some d → hb ≠ d.block
theorem CopyAt.first {N : Nat} {TA TB TI : TypeId} {w : World} {f : Fn} {av : Value} {ba : Option Addr} {bc : Nat} {l : List BlkP} {b0 : Blk} (h : CopyAt N TA TB TI w f av (.slice ba f.blocks.length bc) l) (h0 : f.blocks[0]? = some b0) :
    ∃ hb p, ba = some ⟨hb, 0, none⟩ ∧ l[0]? = some p ∧ f.blocks.length ≤ bc ∧ FirstAt N w hb p b0 := by
  have hpos : 0 < f.blocks.length := (List.getElem?_eq_some_iff.1 h0).1
  have hll : l.length = f.blocks.length := by have := congrArg List.length h.eq; simpa using this
  have hr := h.blks.row
  rw [hll] at hr
  obtain ⟨p, hp⟩ : ∃ p, l[0]? = some p := ⟨_, List.getElem?_eq_getElem (by omega)⟩
  have hpm := List.mem_of_getElem? hp
  have hpe : p.blk = b0 := by
    have : (l.map (·.blk))[0]? = some p.blk := by rw [List.getElem?_map, hp]; rfl
    rw [h.eq, h0] at this
    injection this with this
    exact this.symm
  rcases hr.2 with ⟨_, h1⟩ | ⟨g, cap, cur, hv, hg, hcur, hn, hcm, hsz, htk⟩
  · omega
  · injection hv with e1 e2 e3
    subst e1 e3
    have hR := h.blks.toRow
    have key : ∀ o u, o < 5 → p.cells[o]? = some u → w.cell? ⟨g, 0 * 5 + o, none⟩ = some u := fun o u ho hu => own_cell hr ((flat_get BlkP.cells_len hp ho).trans hu)
    have hcap := ownsRow_cap (h.blks.code p hpm)
    subst hpe
    refine ⟨g, p, rfl, hp, hn, rfl, hg, lt_heap hcur, ⟨?_, ?_, ?_, ?_, ?_⟩, fun i => frozen_heap hcur i, hcap.1, hcap.2.2, fun d hd => ?_, hR.code p hpm, hR.lies p hpm, fun d hd e => hR.apart p hpm d hd (by rw [← e]; rfl)⟩
    · have := key 0 _ (by omega) rfl; simpa using this
    · have := key 1 _ (by omega) rfl; simpa using this
    · have := key 2 _ (by omega) rfl; simpa using this
    · have := key 3 _ (by omega) rfl; simpa using this
    · have := key 4 _ (by omega) rfl; simpa using this
    · rcases ownsRow_form (h.blks.code p hpm) with ⟨hv, _⟩ | ⟨g', cap', hv, _⟩
      · unfold BlkP.code at hv
        injection hv with e1
        rw [hd] at e1; cases e1
      · unfold BlkP.code at hv
        injection hv with e1
        rw [hd] at e1; cases e1
        exact ⟨rfl, rfl⟩
theorem FirstAt.below {N : Nat} {w w' : World} {hb : Nat} {p : BlkP} {b0 : Blk} (h : FirstAt N w hb p b0) (hB : Below w.heap.size w w') : FirstAt N w' hb p b0 := by
  obtain ⟨c0, c1, c2, c3, c4⟩ := h.cells
  exact { h with
    hi := Nat.lt_of_lt_of_le h.hi hB.size
    cells := ⟨cell_below hB c0, cell_below hB c1, cell_below hB c2, cell_below hB c3, cell_below hB c4⟩
    free := fun i => (hB.frozen (p := ⟨hb, i, none⟩) h.hi).trans (h.free i)
    code := h.code.below hB
    lies := h.lies.mono (Nat.le_refl _) hB.size }
theorem blocks_split {f : Fn} {l : List BlkP} {p : BlkP} {b0 : Blk} {k : Nat} {a : Option Addr} {c : Nat} (h : l.map (·.blk) = f.blocks) : (l.set 0 (BlkP.mk ⟨b0.code.take k, 1, 0, f.blocks.length, 0⟩ p.a p.c) ++ [BlkP.mk { b0 with code := b0.code.drop k } a c]).map (fun q : BlkP => q.blk) = splitBlocks f.blocks b0 k := by
  unfold splitBlocks
  rw [List.map_append, List.map_set, h]
  rfl
end Go.Proofs.Ytjdfcpjlmfaaaaa
