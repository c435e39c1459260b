/-
  Plain: the worklist of solve ends in the least solution of the equations.
-/
import Derived.Test.YteknhnnlhhgppaaDoorMg3
namespace Go.Proofs.YteknhnnlhhgppaaDoor
set_option linter.unusedVariables false
set_option linter.unusedSimpArgs false
open Go.RowKit
set_option maxRecDepth 100000

/-- register r is live at the start of block k: a path leads to a use -/
inductive LiveIn (f : Fn) (r : Nat) : Nat → Prop where
  | use {k : Nat} {b : Blk} : f.blocks[k]? = some b → (blkB b 0 0).testBit r = true → LiveIn f r k
  | pass {k : Nat} {b : Blk} {t : Int} : f.blocks[k]? = some b → (blkB b 0 (2 ^ r)).testBit r = true → t ∈ b.succ → LiveIn f r t.toNat → LiveIn f r k
theorem getD_at {α : Type} (l : List α) (d : α) {k : Nat} (h : k < l.length) : l.getD k d = l[k] := by rw [List.getD_eq_getElem?_getD, List.getElem?_eq_getElem h]; rfl
/-- the sets are the least solution -/
structure Sol (f : Fn) (R : Nat) (ins outs : List Nat) : Prop where
  li : ins.length = f.blocks.length
  lo : outs.length = f.blocks.length
  bi : ∀ k, ins.getD k 0 < 2 ^ R
  bo : ∀ k, outs.getD k 0 < 2 ^ R
  eqi : ∀ k b, f.blocks[k]? = some b → ins.getD k 0 = blkB b 0 (outs.getD k 0)
  eqo : ∀ k b, f.blocks[k]? = some b → ∀ r, (outs.getD k 0).testBit r = true ↔ ∃ t ∈ b.succ, (ins.getD t.toNat 0).testBit r = true
  least : ∀ k r, (ins.getD k 0).testBit r = true → LiveIn f r k
/-- bits of a block: one by one -/
theorem foldB_one {R : Nat} (hR : R ≤ 12) : ∀ (l : List Ins) {s t : Nat} {j : Nat}, (∀ i ∈ l, InsR R i) → s < 2 ^ R → t < 2 ^ R → (s.testBit j = true → t.testBit j = true) → (l.foldr backB s).testBit j = true → (l.foldr backB t).testBit j = true
  | [], s, t, j, _, _, _, h, hj => h hj
  | i :: l, s, t, j, hi, hs, ht, h, hj => by
    have hl : ∀ q ∈ l, InsR R q := fun q hq => hi q (List.mem_cons_of_mem _ hq)
    have ih := foldB_one hR l (j := j) hl hs ht h
    have h0 := hi i (List.mem_cons_self ..)
    rw [List.foldr_cons, backB_bit h0 hR (foldB_lt l hl hs), Bool.or_eq_true, Bool.and_eq_true] at hj
    rw [List.foldr_cons, backB_bit h0 hR (foldB_lt l hl ht), Bool.or_eq_true, Bool.and_eq_true]
    rcases hj with ⟨h1, h2⟩ | h1
    · exact .inl ⟨ih h1, h2⟩
    · exact .inr h1
theorem blkB_mono {R n k s t j : Nat} {b : Blk} (h : BlkR R n b) (hR : R ≤ 12) (hs : s < 2 ^ R) (ht : t < 2 ^ R) (hst : s.testBit j = true → t.testBit j = true) (hj : (blkB b k s).testBit j = true) : (blkB b k t).testBit j = true := by
  refine foldB_one hR _ (fun i hi => (h.ins i (List.mem_of_mem_drop hi)).2.2) (lastB_lt h.fin hs) (lastB_lt h.fin ht) (fun h1 => ?_) hj
  rw [lastB_bit h.fin, Bool.or_eq_true] at h1 ⊢
  rcases h1 with h1 | h1
  · exact .inl (hst h1)
  · exact .inr h1
theorem two_bit {r j : Nat} : (2 ^ r : Nat).testBit j = true ↔ j = r := by rw [Nat.testBit_two_pow]; simp [eq_comm]
theorem liveIn_of {f : Fn} {R : Nat} (hf : FormR f R) {k : Nat} {b : Blk} (hb : f.blocks[k]? = some b) {s r : Nat} (hs : s < 2 ^ R) (h : (blkB b 0 s).testBit r = true) (hq : s.testBit r = true → ∃ t ∈ b.succ, LiveIn f r t.toNat) : LiveIn f r k := by
  have hbr := hf.blk b (List.mem_of_getElem? hb)
  cases hsr : s.testBit r with
  | false => exact .use hb (blkB_mono hbr hf.few hs (Nat.two_pow_pos R) (fun h1 => by rw [hsr] at h1; cases h1) h)
  | true =>
    obtain ⟨t, ht, hl⟩ := hq hsr
    exact .pass hb (blkB_mono hbr hf.few hs (Nat.pow_lt_pow_right (by omega) (bit_lt hs hsr)) (fun _ => two_bit.2 rfl) h) ht hl
theorem Sol.live {f : Fn} {R : Nat} {ins outs : List Nat} (h : Sol f R ins outs) (hf : FormR f R) {k r : Nat} (hr : r < R) (hl : LiveIn f r k) : (ins.getD k 0).testBit r = true := by
  induction hl with
  | use hb hj =>
    rw [h.eqi _ _ hb]
    exact blkB_mono (hf.blk _ (List.mem_of_getElem? hb)) hf.few (Nat.two_pow_pos R) (h.bo _) (fun h1 => by simp at h1) hj
  | pass hb hj ht _ ih =>
    rw [h.eqi _ _ hb]
    refine blkB_mono (hf.blk _ (List.mem_of_getElem? hb)) hf.few (Nat.pow_lt_pow_right (by omega) hr) (h.bo _) (fun h1 => ?_) hj
    exact (h.eqo _ _ hb _).2 ⟨_, ht, ih⟩
theorem Sol.iff {f : Fn} {R : Nat} {ins outs : List Nat} (h : Sol f R ins outs) (hf : FormR f R) (k r : Nat) : (ins.getD k 0).testBit r = true ↔ r < R ∧ LiveIn f r k :=
  ⟨fun hj => ⟨bit_lt (h.bi k) hj, h.least k r hj⟩, fun hj => h.live hf hj.1 hj.2⟩
theorem Sol.unique {f : Fn} {R : Nat} {ins outs ins' outs' : List Nat} (h : Sol f R ins outs) (h' : Sol f R ins' outs') (hf : FormR f R) : ins = ins' ∧ outs = outs' := by
  have e1 : ∀ k, ins.getD k 0 = ins'.getD k 0 := fun k => Nat.eq_of_testBit_eq fun j => by
    rw [Bool.eq_iff_iff, h.iff hf, h'.iff hf]
  have e2 : ∀ k, k < f.blocks.length → outs.getD k 0 = outs'.getD k 0 := fun k hk => Nat.eq_of_testBit_eq fun j => by
    have hb : f.blocks[k]? = some f.blocks[k] := List.getElem?_eq_getElem hk
    rw [Bool.eq_iff_iff, h.eqo k _ hb, h'.eqo k _ hb]
    simp only [e1]
  constructor
  · refine List.ext_getElem (by rw [h.li, h'.li]) fun k h1 h2 => ?_
    have := e1 k
    rwa [getD_at _ _ h1, getD_at _ _ h2] at this
  · refine List.ext_getElem (by rw [h.lo, h'.lo]) fun k h1 h2 => ?_
    have := e2 k (by rw [← h.lo]; exact h1)
    rwa [getD_at _ _ h1, getD_at _ _ h2] at this
/-- the worklist on its way; X: blocks that are still to be put into it -/
structure WorkX (f : Fn) (R : Nat) (X : Nat → Prop) (ins outs work : List Nat) (wait : List Bool) : Prop where
  li : ins.length = f.blocks.length
  lo : outs.length = f.blocks.length
  lw : wait.length = f.blocks.length
  bi : ∀ k, ins.getD k 0 < 2 ^ R
  bo : ∀ k, outs.getD k 0 < 2 ^ R
  wk : ∀ x ∈ work, x < f.blocks.length
  nd : work.Nodup
  wt : ∀ k, k < f.blocks.length → (wait.getD k false = true ↔ k ∈ work)
  eqi : ∀ k b, f.blocks[k]? = some b → k ∉ work → ¬ X k → ins.getD k 0 = blkB b 0 (outs.getD k 0)
  sub : ∀ k b, f.blocks[k]? = some b → k ∉ work → ¬ X k → ∀ t ∈ b.succ, ∀ r, (ins.getD t.toNat 0).testBit r = true → (outs.getD k 0).testBit r = true
  up : ∀ k b, f.blocks[k]? = some b → ∀ r, (ins.getD k 0).testBit r = true → (blkB b 0 (outs.getD k 0)).testBit r = true
  down : ∀ k b, f.blocks[k]? = some b → ∀ r, (outs.getD k 0).testBit r = true → ∃ t ∈ b.succ, (ins.getD t.toNat 0).testBit r = true
  least : ∀ k r, (ins.getD k 0).testBit r = true → LiveIn f r k
theorem WorkX.sol {f : Fn} {R : Nat} {ins outs : List Nat} {wait : List Bool} (h : WorkX f R (fun _ => False) ins outs [] wait) : Sol f R ins outs where
  li := h.li
  lo := h.lo
  bi := h.bi
  bo := h.bo
  eqi k b hb := h.eqi k b hb (by simp) (by simp)
  eqo k b hb r := ⟨h.down k b hb r, fun ⟨t, ht, hj⟩ => h.sub k b hb (by simp) (by simp) t ht r hj⟩
  least := h.least
theorem work_start {f : Fn} {R : Nat} : WorkX f R (fun _ => False) (List.replicate f.blocks.length 0) (List.replicate f.blocks.length 0) (List.range f.blocks.length) (List.replicate f.blocks.length true) := by
  have hz : ∀ k, (List.replicate f.blocks.length (0 : Nat)).getD k 0 = 0 := fun k => by
    rw [List.getD_eq_getElem?_getD, List.getElem?_replicate]
    split <;> rfl
  have hb : ∀ {α : Type} {l : List α} {k : Nat} {x : α}, l[k]? = some x → k < l.length := fun h => (List.getElem?_eq_some_iff.1 h).1
  refine ⟨by simp, by simp, by simp, fun k => by rw [hz]; exact Nat.two_pow_pos R, fun k => by rw [hz]; exact Nat.two_pow_pos R, fun x hx => List.mem_range.1 hx, List.nodup_range, fun k hk => ?_, fun k b h1 h2 => ?_, fun k b h1 h2 => ?_, fun k b _ r h1 => ?_, fun k b _ r h1 => ?_, fun k r h1 => ?_⟩
  · rw [List.getD_eq_getElem?_getD, List.getElem?_replicate, if_pos hk]
    simpa using hk
  · exact absurd (List.mem_range.2 (hb h1)) h2
  · exact absurd (List.mem_range.2 (hb h1)) h2
  all_goals
    rw [hz] at h1
    simp at h1
theorem getD_set {α : Type} {l : List α} {i k : Nat} {x d : α} : (l.set i x).getD k d = if k = i ∧ i < l.length then x else l.getD k d := by
  rw [List.getD_eq_getElem?_getD, List.getElem?_set, List.getD_eq_getElem?_getD]
  by_cases h : i = k
  · subst h
    by_cases h2 : i < l.length
    · simp [h2]
    · simp [h2]
  · simp [h, Ne.symm h]
/-- the last of the worklist is taken -/
theorem WorkX.pop {f : Fn} {R i : Nat} {ins outs work : List Nat} {wait : List Bool} (h : WorkX f R (fun _ => False) ins outs (work ++ [i]) wait) : WorkX f R (fun k => k = i) ins outs work (wait.set i false) := by
  have hnd := List.nodup_append.1 h.nd
  have hni : i ∉ work := fun hi => hnd.2.2 i hi i (by simp) rfl
  have hi : i < f.blocks.length := h.wk i (by simp)
  refine { h with lw := by rw [List.length_set]; exact h.lw, wk := fun x hx => h.wk x (List.mem_append_left _ hx), nd := hnd.1, wt := fun k hk => ?_, eqi := fun k b hb h1 h2 => h.eqi k b hb (by simp [h1]; exact h2) (by simp), sub := fun k b hb h1 h2 => h.sub k b hb (by simp [h1]; exact h2) (by simp) }
  rw [getD_set]
  by_cases hki : k = i
  · subst hki
    rw [if_pos ⟨rfl, by rw [h.lw]; exact hi⟩]
    simp [hni]
  · rw [if_neg (fun e => hki e.1), h.wt k hk]
    simp [hki]
/-- what is live at the end of a block, joined -/
def joinB (ins : List Nat) (l : List Int) (s : Nat) : Nat := l.foldl (fun s t => s ||| ins.getD t.toNat 0) s
theorem joinB_bit (ins : List Nat) : ∀ (l : List Int) (s r : Nat), (joinB ins l s).testBit r = true ↔ s.testBit r = true ∨ ∃ t ∈ l, (ins.getD t.toNat 0).testBit r = true
  | [], s, r => by simp [joinB]
  | t :: l, s, r => by
    show (joinB ins l (s ||| ins.getD t.toNat 0)).testBit r = true ↔ _
    rw [joinB_bit ins l, Nat.testBit_or, Bool.or_eq_true]
    simp only [List.mem_cons]
    constructor
    · rintro ((h | h) | ⟨u, hu, h⟩)
      · exact .inl h
      · exact .inr ⟨t, .inl rfl, h⟩
      · exact .inr ⟨u, .inr hu, h⟩
    · rintro (h | ⟨u, (rfl | hu), h⟩)
      · exact .inl (.inl h)
      · exact .inl (.inr h)
      · exact .inr ⟨u, hu, h⟩
theorem joinB_lt {R : Nat} {ins : List Nat} (hi : ∀ k, ins.getD k 0 < 2 ^ R) : ∀ (l : List Int) {s : Nat}, s < 2 ^ R → joinB ins l s < 2 ^ R
  | [], _, hs => hs
  | t :: l, _, hs => joinB_lt hi l (or_lt hs (hi t.toNat))
/-- the end's set of block i is joined -/
theorem WorkX.join {f : Fn} {R i : Nat} {b : Blk} {ins outs work : List Nat} {wait : List Bool} (h : WorkX f R (fun k => k = i) ins outs work wait) (hf : FormR f R) (hb : f.blocks[i]? = some b) :
    WorkX f R (fun k => k = i) ins (outs.set i (joinB ins b.succ (outs.getD i 0))) work wait := by
  have hil : i < outs.length := by rw [h.lo]; exact (List.getElem?_eq_some_iff.1 hb).1
  have hget : ∀ k, (outs.set i (joinB ins b.succ (outs.getD i 0))).getD k 0 = if k = i then joinB ins b.succ (outs.getD i 0) else outs.getD k 0 := fun k => by
    rw [getD_set]
    by_cases hk : k = i
    · rw [if_pos ⟨hk, hil⟩, if_pos hk]
    · rw [if_neg (fun e => hk e.1), if_neg hk]
  have hj : joinB ins b.succ (outs.getD i 0) < 2 ^ R := joinB_lt h.bi _ (h.bo i)
  refine { h with lo := by rw [List.length_set]; exact h.lo, bo := fun k => ?_, eqi := fun k c hc h1 h2 => ?_, sub := fun k c hc h1 h2 => ?_, up := fun k c hc r h1 => ?_, down := fun k c hc r h1 => ?_ }
  · rw [hget]; split
    · exact hj
    · exact h.bo k
  · rw [hget, if_neg h2]; exact h.eqi k c hc h1 h2
  · rw [hget, if_neg h2]; exact h.sub k c hc h1 h2
  · rw [hget]
    split
    · rename_i hk
      subst hk
      rw [hb] at hc
      obtain rfl : b = c := Option.some.inj hc
      exact blkB_mono (hf.blk b (List.mem_of_getElem? hb)) hf.few (h.bo k) hj (fun h3 => (joinB_bit _ _ _ _).2 (.inl h3)) (h.up k b hb r h1)
    · exact h.up k c hc r h1
  · rw [hget] at h1
    split at h1
    · rename_i hk
      subst hk
      rw [hb] at hc
      obtain rfl : b = c := Option.some.inj hc
      rcases (joinB_bit _ _ _ _).1 h1 with h3 | h3
      · exact h.down k b hb r h3
      · exact h3
    · exact h.down k c hc r h1
/-- the start's set is what it was -/
theorem WorkX.same {f : Fn} {R i : Nat} {b : Blk} {ins outs work : List Nat} {wait : List Bool} (h : WorkX f R (fun k => k = i) ins outs work wait) (hb : f.blocks[i]? = some b) (hj : ∀ t ∈ b.succ, ∀ r, (ins.getD t.toNat 0).testBit r = true → (outs.getD i 0).testBit r = true)
    (he : blkB b 0 (outs.getD i 0) = ins.getD i 0) : WorkX f R (fun _ => False) ins outs work wait := by
  refine { h with eqi := fun k c hc h1 _ => ?_, sub := fun k c hc h1 _ => ?_ }
  · by_cases hk : k = i
    · subst hk
      rw [hb] at hc
      obtain rfl : b = c := Option.some.inj hc
      exact he.symm
    · exact h.eqi k c hc h1 hk
  · by_cases hk : k = i
    · subst hk
      rw [hb] at hc
      obtain rfl : b = c := Option.some.inj hc
      exact hj
    · exact h.sub k c hc h1 hk
/-- the start's set has grown: its predecessors are to be looked at again -/
theorem WorkX.grow {f : Fn} {R i : Nat} {b : Blk} {ins outs work : List Nat} {wait : List Bool} (h : WorkX f R (fun k => k = i) ins outs work wait) (hf : FormR f R) (hb : f.blocks[i]? = some b) (hj : ∀ t ∈ b.succ, ∀ r, (ins.getD t.toNat 0).testBit r = true → (outs.getD i 0).testBit r = true)
    {P : Nat → Prop} (hP : ∀ k c, f.blocks[k]? = some c → (∃ t ∈ c.succ, t.toNat = i) → P k) : WorkX f R P (ins.set i (blkB b 0 (outs.getD i 0))) outs work wait := by
  have hbr := hf.blk b (List.mem_of_getElem? hb)
  have hil : i < ins.length := by rw [h.li]; exact (List.getElem?_eq_some_iff.1 hb).1
  have hget : ∀ k, (ins.set i (blkB b 0 (outs.getD i 0))).getD k 0 = if k = i then blkB b 0 (outs.getD i 0) else ins.getD k 0 := fun k => by
    rw [getD_set]
    by_cases hk : k = i
    · rw [if_pos ⟨hk, hil⟩, if_pos hk]
    · rw [if_neg (fun e => hk e.1), if_neg hk]
  have hup : ∀ k r, (ins.getD k 0).testBit r = true → ((ins.set i (blkB b 0 (outs.getD i 0))).getD k 0).testBit r = true := fun k r h1 => by
    rw [hget]
    split
    · rename_i hk
      subst hk
      exact h.up k b hb r h1
    · exact h1
  refine { h with li := by rw [List.length_set]; exact h.li, bi := fun k => ?_, eqi := fun k c hc h1 h2 => ?_, sub := fun k c hc h1 h2 t ht r h3 => ?_, up := fun k c hc r h1 => ?_, down := fun k c hc r h1 => ?_, least := fun k r h1 => ?_ }
  · rw [hget]; split
    · exact blkB_lt hbr (h.bo i)
    · exact h.bi k
  · rw [hget]
    split
    · rename_i hk
      subst hk
      rw [hb] at hc
      obtain rfl : b = c := Option.some.inj hc
      rfl
    · rename_i hk
      exact h.eqi k c hc h1 hk
  · rw [hget] at h3
    split at h3
    · rename_i hti
      exact absurd (hP k c hc ⟨t, ht, hti⟩) h2
    · by_cases hk : k = i
      · subst hk
        rw [hb] at hc
        obtain rfl : b = c := Option.some.inj hc
        exact hj t ht r h3
      · exact h.sub k c hc h1 hk t ht r h3
  · rw [hget] at h1
    split at h1
    · rename_i hk
      subst hk
      rw [hb] at hc
      obtain rfl : b = c := Option.some.inj hc
      exact h1
    · exact h.up k c hc r h1
  · obtain ⟨t, ht, h3⟩ := h.down k c hc r h1
    exact ⟨t, ht, hup _ _ h3⟩
  · rw [hget] at h1
    split at h1
    · rename_i hk
      subst hk
      exact liveIn_of hf hb (h.bo k) h1 fun h3 => by
        obtain ⟨t, ht, h4⟩ := h.down k b hb r h3
        exact ⟨t, ht, h.least _ _ h4⟩
    · exact h.least k r h1
/-- a block waits already -/
theorem WorkX.skip {f : Fn} {R p : Nat} {P Q : Nat → Prop} {ins outs work : List Nat} {wait : List Bool} (h : WorkX f R P ins outs work wait) (hp : p < f.blocks.length) (hw : wait.getD p false = true) (hQ : ∀ k, P k → k = p ∨ Q k) : WorkX f R Q ins outs work wait := by
  have hm := (h.wt p hp).1 hw
  refine { h with eqi := fun k c hc h1 h2 => h.eqi k c hc h1 (fun h3 => ?_), sub := fun k c hc h1 h2 => h.sub k c hc h1 (fun h3 => ?_) }
  all_goals
    rcases hQ k h3 with rfl | h4
    · exact h1 hm
    · exact h2 h4
/-- a block is put into the worklist -/
theorem WorkX.push {f : Fn} {R p : Nat} {P Q : Nat → Prop} {ins outs work : List Nat} {wait : List Bool} (h : WorkX f R P ins outs work wait) (hp : p < f.blocks.length) (hw : wait.getD p false = false) (hQ : ∀ k, P k → k = p ∨ Q k) : WorkX f R Q ins outs (work ++ [p]) (wait.set p true) := by
  have hm : p ∉ work := fun h1 => by have := (h.wt p hp).2 h1; rw [hw] at this; cases this
  refine { h with lw := by rw [List.length_set]; exact h.lw, wk := fun x hx => ?_, nd := ?_, wt := fun k hk => ?_, eqi := fun k c hc h1 h2 => h.eqi k c hc (fun h3 => h1 (List.mem_append_left _ h3)) (fun h3 => ?_), sub := fun k c hc h1 h2 => h.sub k c hc (fun h3 => h1 (List.mem_append_left _ h3)) (fun h3 => ?_) }
  · rcases List.mem_append.1 hx with hx | hx
    · exact h.wk x hx
    · simp at hx; omega
  · rw [List.nodup_append]
    exact ⟨h.nd, by simp, fun a ha c hc e => by simp at hc; subst hc; subst e; exact hm ha⟩
  · rw [getD_set]
    by_cases hkp : k = p
    · subst hkp
      rw [if_pos ⟨rfl, by rw [h.lw]; exact hp⟩]
      simp
    · rw [if_neg (fun e => hkp e.1), h.wt k hk]
      simp [hkp]
  all_goals
    rcases hQ k h3 with rfl | h4
    · exact h1 (by simp)
    · exact h2 h4
theorem WorkX.weaken {f : Fn} {R : Nat} {P Q : Nat → Prop} {ins outs work : List Nat} {wait : List Bool} (h : WorkX f R P ins outs work wait) (hQ : ∀ k, P k → Q k) : WorkX f R Q ins outs work wait :=
  { h with eqi := fun k c hc h1 h2 => h.eqi k c hc h1 (fun h3 => h2 (hQ k h3)), sub := fun k c hc h1 h2 => h.sub k c hc h1 (fun h3 => h2 (hQ k h3)) }
/-- how much is left -/
def workM (R n : Nat) (ins work : List Nat) : Nat := (ins.map (2 ^ R - ·)).sum * (n + 1) + work.length
theorem nodup_bound : ∀ {n : Nat} {l : List Nat}, l.Nodup → (∀ x ∈ l, x < n) → l.length ≤ n := by
  intro n
  induction n with
  | zero =>
    intro l _ hl
    cases l with
    | nil => simp
    | cons a l => exact absurd (hl a (List.mem_cons_self ..)) (by omega)
  | succ n ih =>
    intro l hn hl
    have h1 := ih (l := l.erase n) (hn.erase n) (fun x hx => by
      have h2 := hl x (List.mem_of_mem_erase hx)
      have h3 : x ≠ n := fun e => by subst e; exact (List.Nodup.not_mem_erase hn) hx
      omega)
    by_cases hm : n ∈ l
    · rw [List.length_erase_of_mem hm] at h1
      omega
    · rw [List.erase_of_not_mem hm] at h1
      omega
theorem sum_set_lt : ∀ {l : List Nat} {i x y : Nat}, l[i]? = some y → x < y → (l.set i x).sum < l.sum
  | [], _, _, _, h, _ => by simp at h
  | a :: l, 0, x, y, h, hx => by simp at h; subst h; simp; exact hx
  | a :: l, i + 1, x, y, h, hx => by
    have := sum_set_lt (l := l) (i := i) (x := x) (y := y) (by simpa using h) hx
    simp
    exact this
theorem bits_le {s t : Nat} (h : ∀ r, s.testBit r = true → t.testBit r = true) : s ≤ t := by
  have e : s ||| t = t := Nat.eq_of_testBit_eq fun j => by
    rw [Nat.testBit_or]
    cases hs : s.testBit j with
    | false => rfl
    | true => rw [h j hs]; rfl
  rw [← e]
  exact Nat.left_le_or
theorem workM_pop {R n i : Nat} {ins work : List Nat} : workM R n ins work < workM R n ins (work ++ [i]) := by unfold workM; simp
theorem workM_grow {R n i s : Nat} {ins work work' : List Nat} (hi : i < ins.length) (hs : ins.getD i 0 < s) (h2 : s < 2 ^ R) (hw : work'.length ≤ n) : workM R n (ins.set i s) work' < workM R n ins work := by
  unfold workM
  have e : ((ins.set i s).map (2 ^ R - ·)) = (ins.map (2 ^ R - ·)).set i (2 ^ R - s) := by rw [List.map_set]
  have hy : (ins.map (2 ^ R - ·))[i]? = some (2 ^ R - ins.getD i 0) := by
    rw [List.getElem?_map, List.getElem?_eq_getElem hi, getD_at _ _ hi]
    rfl
  have := sum_set_lt hy (x := 2 ^ R - s) (by omega)
  rw [e]
  have h3 : (((ins.map (2 ^ R - ·)).set i (2 ^ R - s)).sum + 1) * (n + 1) ≤ (ins.map (2 ^ R - ·)).sum * (n + 1) := Nat.mul_le_mul_right _ this
  rw [Nat.add_mul] at h3
  omega
theorem exists_min {α : Type} {P : α → Prop} (M : α → Nat) : ∀ (n : Nat) (a : α), P a → M a = n → ∃ c, P c ∧ ∀ d, P d → M c ≤ M d := by
  intro n
  induction n using Nat.strongRecOn with
  | _ n ih =>
    intro a ha hn
    by_cases h : ∃ d, P d ∧ M d < n
    · obtain ⟨d, hd, hlt⟩ := h
      exact ih (M d) hlt d hd rfl
    · exact ⟨a, ha, fun d hd => Nat.le_of_not_lt fun hlt => h ⟨d, hd, by omega⟩⟩
/-- the least of a measure -/
noncomputable def leastM {α : Type} (P : α → Prop) (M : α → Nat) : Nat := by
  classical
  exact if h : ∃ a, P a then M (Classical.choose (exists_min M _ (Classical.choose h) (Classical.choose_spec h) rfl)) else 0
theorem leastM_le {α : Type} {P : α → Prop} {M : α → Nat} {a : α} (h : P a) : leastM P M ≤ M a := by
  unfold leastM
  have hx : ∃ a, P a := ⟨a, h⟩
  rw [dif_pos hx]
  exact (Classical.choose_spec (exists_min M _ (Classical.choose hx) (Classical.choose_spec hx) rfl)).2 a h
theorem leastM_at {α : Type} {P : α → Prop} {M : α → Nat} (h : ∃ a, P a) : ∃ a, P a ∧ M a = leastM P M := by
  unfold leastM
  rw [dif_pos h]
  exact ⟨_, (Classical.choose_spec (exists_min M _ (Classical.choose h) (Classical.choose_spec h) rfl)).1, rfl⟩
end Go.Proofs.YteknhnnlhhgppaaDoor
