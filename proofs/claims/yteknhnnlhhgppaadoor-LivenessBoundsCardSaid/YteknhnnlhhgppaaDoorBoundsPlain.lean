/-
  Plain: a function without the definitions of a register (LivenessBounds): it is live there wherever it was; it is live somewhere only if it is used somewhere.
-/
import Derived.Test.YteknhnnlhhgppaaDoorLiveWork
import Derived.Test.YteknhnnlhhgppaaDoorLiveForm
import Derived.Test.YteknhnnlhhgppaaDoorIrSet
namespace Go.Proofs.YteknhnnlhhgppaaDoor
set_option linter.unusedVariables false
set_option linter.unusedSimpArgs false
open Go.RowKit
set_option maxRecDepth 100000

theorem usesI_len (i : Ins) : i.uses.length ≤ 2 := by
  unfold Ins.uses
  split
  · simp
  · split <;> simp
def zeroI : Ins := ⟨13, 0, 0, 0, 0, ⟨#[]⟩⟩
theorem zeroI_uses : zeroI.uses = [] := rfl
theorem zeroI_defines : zeroI.defines = none := rfl
theorem i64_zero : isI64 0 := by unfold isI64; decide
theorem zeroI_wf : zeroI.Wf := ⟨by decide, by decide, i64_zero, i64_zero, i64_zero, i64_zero, by decide⟩
/-- struck: an instruction that does nothing but define r -/
def zapI (r : Int) (i : Ins) : Ins := if i.defines = some r ∧ i.uses = [] then zeroI else i
/-- .. in the first m instructions of a block -/
def zapC (r : Int) (m : Nat) (b : Blk) : Blk := { b with code := (b.code.take m).map (zapI r) ++ b.code.drop m }
def zapB (r : Int) (b : Blk) : Blk := { b with code := b.code.map (zapI r) }
def zapF (r : Int) (f : Fn) : Fn := { f with blocks := f.blocks.map (zapB r) }
theorem zapC_none (r : Int) (b : Blk) : zapC r 0 b = b := by unfold zapC; simp
theorem zapC_all (r : Int) (b : Blk) : zapC r b.code.length b = zapB r b := by unfold zapC zapB; simp
theorem zapC_len (r : Int) (m : Nat) (b : Blk) : (zapC r m b).code.length = b.code.length := by
  show ((b.code.take m).map (zapI r) ++ b.code.drop m).length = _
  rw [List.length_append, List.length_map, ← List.length_append, List.take_append_drop]
theorem zapC_get {r : Int} {m : Nat} {b : Blk} {i : Ins} (h : b.code[m]? = some i) : (zapC r m b).code[m]? = some i := by
  have hm := (List.getElem?_eq_some_iff.1 h).1
  show ((b.code.take m).map (zapI r) ++ b.code.drop m)[m]? = _
  rw [List.getElem?_append_right (by simp [Nat.min_eq_left (Nat.le_of_lt hm)]), List.getElem?_drop]
  simp [Nat.min_eq_left (Nat.le_of_lt hm), h]
theorem zapC_step {r : Int} {m : Nat} {b : Blk} {i : Ins} (h : b.code[m]? = some i) : zapC r (m + 1) b = { zapC r m b with code := (zapC r m b).code.set m (zapI r i) } := by
  have hm := (List.getElem?_eq_some_iff.1 h).1
  have e : (b.code.take (m + 1)).map (zapI r) ++ b.code.drop (m + 1) = ((b.code.take m).map (zapI r) ++ b.code.drop m).set m (zapI r i) := by
    rw [take_snoc h, List.map_append, List.set_append_right _ _ (by simp [Nat.min_eq_left (Nat.le_of_lt hm)])]
    have hd : b.code.drop m = i :: b.code.drop (m + 1) := by
      rw [List.drop_eq_getElem_cons hm]
      rw [(List.getElem?_eq_some_iff.1 h).2]
    rw [hd]
    simp [Nat.min_eq_left (Nat.le_of_lt hm)]
  unfold zapC
  rw [e]
theorem zapC_same {r : Int} {m : Nat} {b : Blk} {i : Ins} (h : b.code[m]? = some i) (hz : zapI r i = i) : zapC r (m + 1) b = zapC r m b := by
  rw [zapC_step h, hz, List.set_getElem?_self' (zapC_get h)]
where
  List.set_getElem?_self' {l : List Ins} {m : Nat} {i : Ins} (h : l[m]? = some i) : l.set m i = l := by
    apply List.ext_getElem?
    intro j
    rw [List.getElem?_set]
    split
    · rename_i e
      subst e
      have := (List.getElem?_eq_some_iff.1 h).1
      rw [if_pos this, h]
    · rfl
theorem zapI_uses (r : Int) (i : Ins) : (zapI r i).uses = i.uses := by
  unfold zapI
  split
  · rename_i h
    rw [zeroI_uses, h.2]
  · rfl
theorem zapI_defines (r : Int) (i : Ins) : (zapI r i).defines = if i.defines = some r ∧ i.uses = [] then none else i.defines := by
  unfold zapI
  split
  · rfl
  · rfl
theorem zapB_succ (r : Int) (b : Blk) : (zapB r b).succ = b.succ := rfl
theorem zapI_form {r regs : Int} {i : Ins} (h : InsF regs i) : InsF regs (zapI r i) := by
  unfold zapI
  split
  · refine ⟨by decide, by decide, fun q hq => ?_, fun d hd => ?_⟩
    · rw [zeroI_uses] at hq; cases hq
    · rw [zeroI_defines] at hd; cases hd
  · exact h
theorem zapF_form {r : Int} {f : Fn} (h : FormF f) : FormF (zapF r f) := by
  refine ⟨by show 0 < (f.blocks.map _).length; rw [List.length_map]; exact h.one, h.r0, h.r1, fun b hb => ?_⟩
  obtain ⟨b', hb', rfl⟩ := List.mem_map.1 hb
  have hB := h.blk b' hb'
  refine ⟨fun i hi => ?_, hB.k0, hB.k1, fun t ht => ?_, hB.fin⟩
  · obtain ⟨i', hi', rfl⟩ := List.mem_map.1 hi
    exact zapI_form (hB.ins i' hi')
  · show 0 ≤ t ∧ t < ((f.blocks.map (zapB r)).length : Int)
    rw [List.length_map]
    exact hB.succ t ht
theorem back_zap {R r : Nat} {i : Ins} (hi : InsR R i) (hz : InsR R (zapI r i)) (hR : R ≤ 12) {s t : Nat} (hs : s < 2 ^ R) (ht : t < 2 ^ R) (hst : s.testBit r = true → t.testBit r = true) (h : (backB i s).testBit r = true) : (backB (zapI r i) t).testBit r = true := by
  rw [backB_bit hi hR hs, Bool.or_eq_true, Bool.and_eq_true] at h
  rw [backB_bit hz hR ht, Bool.or_eq_true, Bool.and_eq_true, zapI_uses, zapI_defines]
  rcases h with ⟨h1, h2⟩ | h
  · refine .inl ⟨hst h1, ?_⟩
    have hd : ¬ i.defines = some (r : Int) := by simpa using h2
    rw [if_neg (fun e => hd e.1)]
    exact h2
  · exact .inr h
theorem fold_zap {R r : Nat} (hR : R ≤ 12) : ∀ (l : List Ins) {s t : Nat}, (∀ i ∈ l, InsR R i ∧ InsR R (zapI r i)) → s < 2 ^ R → t < 2 ^ R → (s.testBit r = true → t.testBit r = true) → (l.foldr backB s).testBit r = true → ((l.map (zapI r)).foldr backB t).testBit r = true
  | [], s, t, _, _, _, h, hj => h hj
  | i :: l, s, t, hi, hs, ht, h, hj => by
    have hl : ∀ q ∈ l, InsR R q ∧ InsR R (zapI r q) := fun q hq => hi q (List.mem_cons_of_mem _ hq)
    have ih := fold_zap hR l hl hs ht h
    have h0 := hi i (List.mem_cons_self ..)
    have b1 : l.foldr backB s < 2 ^ R := foldB_lt l (fun q hq => (hl q hq).1) hs
    have b2 : (l.map (zapI r)).foldr backB t < 2 ^ R := foldB_lt _ (fun q hq => by obtain ⟨q', hq', rfl⟩ := List.mem_map.1 hq; exact (hl q' hq').2) ht
    exact back_zap h0.1 h0.2 hR b1 b2 ih hj
theorem blk_zap {R n r k s t : Nat} {b : Blk} (h : BlkR R n b) (h' : BlkR R n (zapB r b)) (hR : R ≤ 12) (hs : s < 2 ^ R) (ht : t < 2 ^ R) (hst : s.testBit r = true → t.testBit r = true) (hj : (blkB b k s).testBit r = true) : (blkB (zapB r b) k t).testBit r = true := by
  have e : (zapB r b).code.drop k = (b.code.drop k).map (zapI r) := by
    show (b.code.map (zapI r)).drop k = _
    rw [List.map_drop]
  unfold blkB
  rw [e]
  refine fold_zap hR _ (fun i hi => ⟨(h.ins i (List.mem_of_mem_drop hi)).2.2, (h'.ins _ (List.mem_map_of_mem (List.mem_of_mem_drop hi))).2.2⟩) (lastB_lt h.fin hs) (lastB_lt h'.fin ht) (fun h1 => ?_) hj
  rw [lastB_bit h.fin, Bool.or_eq_true] at h1
  rw [lastB_bit h'.fin, Bool.or_eq_true]
  exact h1.imp hst id
theorem zap_get {f : Fn} {r : Int} {k : Nat} {b : Blk} (hb : f.blocks[k]? = some b) : (zapF r f).blocks[k]? = some (zapB r b) := by
  show (f.blocks.map _)[k]? = _
  rw [List.getElem?_map, hb]; rfl
theorem zap_len {f : Fn} {r : Int} : (zapF r f).blocks.length = f.blocks.length := by show (f.blocks.map _).length = _; rw [List.length_map]
theorem liveIn_zap {f : Fn} {R r : Nat} (h : FormR f R) (h' : FormR (zapF r f) R) (hr : r < R) {k : Nat} (hl : LiveIn f r k) : LiveIn (zapF r f) r k := by
  have hB : ∀ {k : Nat} {b : Blk}, f.blocks[k]? = some b → BlkR R f.blocks.length b ∧ BlkR R f.blocks.length (zapB r b) := fun hb => by
    have h1 := h'.blk _ (List.mem_of_getElem? (zap_get (r := r) hb))
    rw [zap_len] at h1
    exact ⟨h.blk _ (List.mem_of_getElem? hb), h1⟩
  induction hl with
  | use hb hj => exact .use (zap_get hb) (blk_zap (hB hb).1 (hB hb).2 h.few (Nat.two_pow_pos R) (Nat.two_pow_pos R) id hj)
  | pass hb hj ht _ ih =>
    have hp : 2 ^ r < 2 ^ R := Nat.pow_lt_pow_right (by omega) hr
    exact .pass (zap_get hb) (blk_zap (hB hb).1 (hB hb).2 h.few hp hp id hj) ht ih
/-- a register that some instruction, or branch, of a block uses -/
def UsedBlk (r : Int) (b : Blk) : Prop := (b.kind = 2 ∧ b.x = r) ∨ ∃ i ∈ b.code, r ∈ i.uses
theorem fold_unused {R r : Nat} (hR : R ≤ 12) : ∀ (l : List Ins) {s : Nat}, (∀ i ∈ l, InsR R i) → s < 2 ^ R → (∀ i ∈ l, ¬ (r : Int) ∈ i.uses) → (l.foldr backB s).testBit r = true → s.testBit r = true
  | [], _, _, _, _, h => h
  | i :: l, s, hi, hs, hu, h => by
    have hl : ∀ q ∈ l, InsR R q := fun q hq => hi q (List.mem_cons_of_mem _ hq)
    have b1 : l.foldr backB s < 2 ^ R := foldB_lt l hl hs
    have h1 : (backB i (l.foldr backB s)).testBit r = true := h
    rw [backB_bit (hi i (List.mem_cons_self ..)) hR b1, Bool.or_eq_true, Bool.and_eq_true] at h1
    rcases h1 with ⟨h1, _⟩ | h1
    · exact fold_unused hR l hl hs (fun q hq => hu q (List.mem_cons_of_mem _ hq)) h1
    · exact absurd (by simpa using h1) (hu i (List.mem_cons_self ..))
theorem blk_unused {R n r k s : Nat} {b : Blk} (h : BlkR R n b) (hR : R ≤ 12) (hs : s < 2 ^ R) (hu : ¬ UsedBlk r b) (hj : (blkB b k s).testBit r = true) : s.testBit r = true := by
  unfold blkB at hj
  have h1 := fold_unused hR _ (fun i hi => (h.ins i (List.mem_of_mem_drop hi)).2.2) (lastB_lt h.fin hs) (fun i hi hc => hu (.inr ⟨i, List.mem_of_mem_drop hi, hc⟩)) hj
  rw [lastB_bit h.fin, Bool.or_eq_true] at h1
  rcases h1 with h1 | h1
  · exact h1
  · exact absurd (.inl (by simpa using h1)) hu
theorem liveIn_used {f : Fn} {R r : Nat} (h : FormR f R) (hr : r < R) {k : Nat} (hl : LiveIn f r k) : ∃ b ∈ f.blocks, UsedBlk r b := by
  induction hl with
  | use hb hj =>
    rename_i b
    refine Classical.byContradiction fun hn => ?_
    have := blk_unused (h.blk _ (List.mem_of_getElem? hb)) h.few (Nat.two_pow_pos R) (fun hu => hn ⟨_, List.mem_of_getElem? hb, hu⟩) hj
    simp at this
  | pass _ _ _ _ ih => exact ih
/-- what the law says, of the sets -/
theorem bounds_plain {f : Fn} {R r : Nat} {ins outs ins' outs' : List Nat} (h : FormR f R) (h' : FormR (zapF r f) R) (hs : Sol f R ins outs) (hs' : Sol (zapF r f) R ins' outs') (hr : r < R) {k a : Nat} {b : Blk} (hb : f.blocks[k]? = some b)
    (hj : (blkB b a (outs.getD k 0)).testBit r = true) : (∃ b ∈ f.blocks, UsedBlk r b) ∧ (blkB (zapB r b) a (outs'.getD k 0)).testBit r = true := by
  have hbr := h.blk _ (List.mem_of_getElem? hb)
  have hbr' := h'.blk _ (List.mem_of_getElem? (zap_get (r := r) hb))
  rw [zap_len] at hbr'
  have key : (outs.getD k 0).testBit r = true → ∃ t ∈ b.succ, LiveIn f r t.toNat := fun ho => by
    obtain ⟨t, ht, hl⟩ := (hs.eqo k b hb r).1 ho
    exact ⟨t, ht, hs.least _ _ hl⟩
  refine ⟨?_, blk_zap hbr hbr' h.few (hs.bo k) (hs'.bo k) (fun ho => ?_) hj⟩
  · refine Classical.byContradiction fun hn => ?_
    have ho := blk_unused hbr h.few (hs.bo k) (fun hu => hn ⟨b, List.mem_of_getElem? hb, hu⟩) hj
    obtain ⟨t, _, hl⟩ := key ho
    exact hn (liveIn_used h hr hl)
  · obtain ⟨t, ht, hl⟩ := key ho
    exact (hs'.eqo k _ (zap_get hb) r).2 ⟨t, ht, hs'.live h' hr (liveIn_zap h h' hr hl)⟩
end Go.Proofs.YteknhnnlhhgppaaDoor
