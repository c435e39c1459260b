/-
  Two registers in one place, and registers that are set: the function stays valid; what the interference says (layer 19). No program is walked here.
-/
import Derived.Test.YteknhnnlhhgppaaDoorOverP
import Derived.Test.YteknhnnlhhgppaaDoorIrRunC
import Derived.Test.YteknhnnlhhgppaaDoorLiveInter
namespace Go.Proofs.YteknhnnlhhgppaaDoor
set_option linter.unusedVariables false
set_option linter.unusedSimpArgs false
open Go.RowKit
set_option maxRecDepth 100000

theorem and5 {A B C D E A' B' C' : Bool} (h : (A && B && C && D && E) = true) (h1 : A = true → A' = true) (h2 : B = true → B' = true) (h3 : C = true → C' = true) : (A' && B' && C' && D && E) = true := by
  simp only [Bool.and_eq_true] at h ⊢
  exact ⟨⟨⟨⟨h1 h.1.1.1.1, h2 h.1.1.1.2⟩, h3 h.1.1.2⟩, h.1.2⟩, h.2⟩
section
variable {a b regs : Int} {ns : List (ByteArray × Bool)}
theorem inReg_th (ha : 0 ≤ a ∧ a < regs) {r : Int} (h : inReg r regs = true) : inReg (thR a b r) regs = true := by
  unfold thR
  split
  · unfold inReg; simp [ha.1, ha.2]
  · exact h
theorem insOk_turn (ha : 0 ≤ a ∧ a < regs) {i : Ins} (hop : 1 ≤ i.op ∧ i.op ≤ 16) (h : insOk regs ns i = true) : insOk regs ns (turnI a b i) = true := by
  obtain ⟨op, d, x, y, imm, sym⟩ := i
  have hop : 1 ≤ op ∧ op ≤ 16 := hop
  have hk : op = 1 ∨ op = 2 ∨ op = 3 ∨ op = 4 ∨ op = 5 ∨ op = 6 ∨ op = 7 ∨ op = 8 ∨ op = 9 ∨ op = 10 ∨ op = 11 ∨ op = 12 ∨ op = 13 ∨ op = 14 ∨ op = 15 ∨ op = 16 := by omega
  rcases hk with rfl | rfl | rfl | rfl | rfl | rfl | rfl | rfl | rfl | rfl | rfl | rfl | rfl | rfl | rfl | rfl
  · have h : ((inReg d regs) && (betw imm (-2147483648) 2147483647) && (x == 0) && (y == 0) && (sym.toList.isEmpty)) = true := h
    show ((inReg (thR a b d) regs) && (betw imm (-2147483648) 2147483647) && (x == 0) && (y == 0) && (sym.toList.isEmpty)) = true
    exact and5 h (inReg_th ha) (fun h => h) (fun h => h)
  · have h : ((inReg d regs) && (inReg x regs) && (y == 0) && (imm == 0) && (sym.toList.isEmpty)) = true := h
    show ((inReg (thR a b d) regs) && (inReg (thR a b x) regs) && (y == 0) && (imm == 0) && (sym.toList.isEmpty)) = true
    exact and5 h (inReg_th ha) (inReg_th ha) (fun h => h)
  · have h : ((inReg d regs) && (inReg x regs) && (inReg y regs) && (betw imm 6 23) && (sym.toList.isEmpty)) = true := h
    show ((inReg (thR a b d) regs) && (inReg (thR a b x) regs) && (inReg (thR a b y) regs) && (betw imm 6 23) && (sym.toList.isEmpty)) = true
    exact and5 h (inReg_th ha) (inReg_th ha) (inReg_th ha)
  · have h : ((inReg d regs) && (inReg x regs) && ((lookB ns sym == some (((4 : Int)) == 4))) && (y == 0) && (imm == 0)) = true := h
    show ((inReg (thR a b d) regs) && (inReg (thR a b x) regs) && ((lookB ns sym == some (((4 : Int)) == 4))) && (y == 0) && (imm == 0)) = true
    exact and5 h (inReg_th ha) (inReg_th ha) (fun h => h)
  · have h : ((inReg x regs) && (inReg y regs) && ((lookB ns sym == some (((5 : Int)) == 5))) && (d == 0) && (imm == 0)) = true := h
    show ((inReg (thR a b x) regs) && (inReg (thR a b y) regs) && ((lookB ns sym == some (((5 : Int)) == 5))) && (d == 0) && (imm == 0)) = true
    exact and5 h (inReg_th ha) (inReg_th ha) (fun h => h)
  · have h : ((inReg d regs) && (inReg x regs) && ((lookB ns sym == some (((6 : Int)) == 4))) && (y == 0) && (imm == 0)) = true := h
    show ((inReg (thR a b d) regs) && (inReg (thR a b x) regs) && ((lookB ns sym == some (((6 : Int)) == 4))) && (y == 0) && (imm == 0)) = true
    exact and5 h (inReg_th ha) (inReg_th ha) (fun h => h)
  · have h : ((inReg x regs) && (inReg y regs) && ((lookB ns sym == some (((7 : Int)) == 5))) && (d == 0) && (imm == 0)) = true := h
    show ((inReg (thR a b x) regs) && (inReg (thR a b y) regs) && ((lookB ns sym == some (((7 : Int)) == 5))) && (d == 0) && (imm == 0)) = true
    exact and5 h (inReg_th ha) (inReg_th ha) (fun h => h)
  · have h : ((inReg x regs) && (betw imm 1 131071) && (d == 0) && (y == 0) && (sym.toList.isEmpty)) = true := h
    show ((inReg (thR a b x) regs) && (betw imm 1 131071) && (d == 0) && (y == 0) && (sym.toList.isEmpty)) = true
    exact and5 h (inReg_th ha) (fun h => h) (fun h => h)
  · have h : ((inReg d regs) && (betw imm 0 7) && (x == 0) && (y == 0) && (sym.toList.isEmpty)) = true := h
    show ((inReg (thR a b d) regs) && (betw imm 0 7) && (x == 0) && (y == 0) && (sym.toList.isEmpty)) = true
    exact and5 h (inReg_th ha) (fun h => h) (fun h => h)
  · have h : ((inReg x regs) && (betw imm 0 7) && (d == 0) && (y == 0) && (sym.toList.isEmpty)) = true := h
    show ((inReg (thR a b x) regs) && (betw imm 0 7) && (d == 0) && (y == 0) && (sym.toList.isEmpty)) = true
    exact and5 h (inReg_th ha) (fun h => h) (fun h => h)
  · have h : (((lookB ns sym == some false)) && (d == 0) && (x == 0) && (y == 0) && (imm == 0)) = true := h
    show (((lookB ns sym == some false)) && (d == 0) && (x == 0) && (y == 0) && (imm == 0)) = true
    exact and5 h (fun h => h) (fun h => h) (fun h => h)
  · have h : (((lookB ns sym == some false)) && (d == 0) && (x == 0) && (y == 0) && (imm == 0)) = true := h
    show (((lookB ns sym == some false)) && (d == 0) && (x == 0) && (y == 0) && (imm == 0)) = true
    exact and5 h (fun h => h) (fun h => h) (fun h => h)
  · have h : ((betw imm 0 3) && (d == 0) && (x == 0) && (y == 0) && (sym.toList.isEmpty)) = true := h
    show ((betw imm 0 3) && (d == 0) && (x == 0) && (y == 0) && (sym.toList.isEmpty)) = true
    exact and5 h (fun h => h) (fun h => h) (fun h => h)
  · have h : ((betw imm 0 3) && (d == 0) && (x == 0) && (y == 0) && (sym.toList.isEmpty)) = true := h
    show ((betw imm 0 3) && (d == 0) && (x == 0) && (y == 0) && (sym.toList.isEmpty)) = true
    exact and5 h (fun h => h) (fun h => h) (fun h => h)
  · have h : ((inReg d regs) && (betw imm 0 3) && (x == 0) && (y == 0) && (sym.toList.isEmpty)) = true := h
    show ((inReg (thR a b d) regs) && (betw imm 0 3) && (x == 0) && (y == 0) && (sym.toList.isEmpty)) = true
    exact and5 h (inReg_th ha) (fun h => h) (fun h => h)
  · have h : ((betw x 0 3) && (betw imm 1 131071) && (d == 0) && (y == 0) && (sym.toList.isEmpty)) = true := h
    show ((betw x 0 3) && (betw imm 1 131071) && (d == 0) && (y == 0) && (sym.toList.isEmpty)) = true
    exact and5 h (fun h => h) (fun h => h) (fun h => h)
theorem endOk_turn (ha : 0 ≤ a ∧ a < regs) {n : Nat} {q : Blk} (h : endOk regs n q = true) : endOk regs n (turnBlk a b q) = true := by
  unfold endOk at h ⊢
  show (bif q.kind == 1 then decide (0 ≤ q.to) && decide (q.to < (n : Int)) && ((if q.kind = 2 then thR a b q.x else q.x) == 0) && (q.els == 0) else bif q.kind == 2 then decide (0 ≤ (if q.kind = 2 then thR a b q.x else q.x)) && decide ((if q.kind = 2 then thR a b q.x else q.x) < regs) && decide (0 ≤ q.to) && decide (q.to < (n : Int)) && decide (0 ≤ q.els) && decide (q.els < (n : Int)) else bif q.kind == 3 then ((if q.kind = 2 then thR a b q.x else q.x) == 0) && (q.to == 0) && (q.els == 0) else false) = true
  by_cases h2 : q.kind = 2
  · rw [h2] at h ⊢
    have h : (decide (0 ≤ q.x) && decide (q.x < regs) && decide (0 ≤ q.to) && decide (q.to < (n : Int)) && decide (0 ≤ q.els) && decide (q.els < (n : Int))) = true := h
    show (decide (0 ≤ thR a b q.x) && decide (thR a b q.x < regs) && decide (0 ≤ q.to) && decide (q.to < (n : Int)) && decide (0 ≤ q.els) && decide (q.els < (n : Int))) = true
    simp only [Bool.and_eq_true, decide_eq_true_eq] at h ⊢
    refine ⟨⟨⟨⟨⟨?_, ?_⟩, h.1.1.1.2⟩, h.1.1.2⟩, h.1.2⟩, h.2⟩
    · unfold thR; split
      · exact ha.1
      · exact h.1.1.1.1.1
    · unfold thR; split
      · exact ha.2
      · exact h.1.1.1.1.2
  · rw [if_neg h2]; exact h
end
theorem fnOk_names {f : Fn} {shared : List (ByteArray × Int)} (h : fnOk f shared = true) : ∃ ns, namesOf f shared = some ns ∧ f.blocks.all (blkOk f ns) = true := by
  unfold fnOk at h
  rw [Bool.and_eq_true] at h
  cases hn : namesOf f shared with
  | none => rw [hn] at h; cases h.2
  | some ns => rw [hn] at h; exact ⟨ns, rfl, h.2⟩
theorem fnOk_blocks {f g : Fn} {shared : List (ByteArray × Int)} (hr : g.regs = f.regs) (ha : g.arrays = f.arrays) (hl : g.blocks.length = f.blocks.length) (h : fnOk f shared = true) (hb : ∀ ns, f.blocks.all (blkOk f ns) = true → g.blocks.all (blkOk g ns) = true) : fnOk g shared = true := by
  obtain ⟨ns, h1, h2⟩ := fnOk_names h
  unfold fnOk at h ⊢
  have hn : namesOf g shared = namesOf f shared := by unfold namesOf; rw [ha]
  rw [hr, ha, hl, hn, h1]
  rw [h1] at h
  rw [Bool.and_eq_true] at h ⊢
  exact ⟨h.1, hb ns h2⟩
theorem fnOk_turn {f : Fn} {R : Nat} {a b : Int} {shared : List (ByteArray × Int)} (hf : FormR f R) (ha : 0 ≤ a ∧ a < (R : Int)) (h : fnOk f shared = true) : fnOk (turnFn a b f) shared = true := by
  refine fnOk_blocks (f := f) (g := turnFn a b f) rfl rfl (by show (f.blocks.map _).length = _; rw [List.length_map]) h (fun ns hall => ?_)
  rw [List.all_eq_true] at hall ⊢
  intro q' hq'
  obtain ⟨q, hq, rfl⟩ := List.mem_map.1 (show q' ∈ f.blocks.map (turnBlk a b) from hq')
  have hq0 := hall q hq
  unfold blkOk at hq0 ⊢
  rw [Bool.and_eq_true] at hq0 ⊢
  have ha' : 0 ≤ a ∧ a < f.regs := by rw [hf.regs]; exact ha
  refine ⟨List.all_eq_true.2 (fun i' hi' => ?_), ?_⟩
  · obtain ⟨i, hi, rfl⟩ := List.mem_map.1 (show i' ∈ q.code.map (turnI a b) from hi')
    have := (hf.blk q hq).ins i hi
    exact insOk_turn ha' ⟨this.1, this.2.1⟩ (List.all_eq_true.1 hq0.1 i hi)
  · show endOk f.regs (f.blocks.map (turnBlk a b)).length (turnBlk a b q) = true
    rw [List.length_map]
    exact endOk_turn ha' hq0.2
/-- a run's outcome but for its steps -/
def Oc.like (o o' : Oc) : Prop := o'.arrays = o.arrays ∧ o'.objects = o.objects ∧ o'.out = o.out ∧ o'.read = o.read ∧ o'.err = o.err
theorem run_turn {f : Fn} {R : Nat} {ins outs : List Nat} {a b : Int} {shared : List (ByteArray × Int)} {arrays objects : List (List Int)} {inp : List Int} {fuel : Int} (hf : FormR f R) (hs : Sol f R ins outs) (ha : 0 ≤ a ∧ a < (R : Int)) (hno : NoInt f R outs a b) (hv : runFits f shared arrays objects = true) :
    Oc.like (runOf f shared arrays objects inp fuel) (runOf (turnFn a b f) shared arrays objects inp fuel) := by
  have hv' : runFits (turnFn a b f) shared arrays objects = true := by
    unfold runFits at hv ⊢
    simp only [Bool.and_eq_true] at hv ⊢
    exact ⟨⟨fnOk_turn hf ha hv.1.1, hv.1.2⟩, hv.2⟩
  have hq : f.blocks[0]? = some (f.blocks[0]'hf.one) := List.getElem?_eq_getElem hf.one
  have hz : ∀ (n : Nat) (m : List (List Int)) (r : Int), (St.init n m).reg r = 0 := fun n m r => by
    unfold St.init St.reg
    show (List.replicate n (0 : Int)).getD r.toNat 0 = 0
    rw [List.getD_eq_getElem?_getD, List.getElem?_replicate]
    split <;> rfl
  have h := go_turn (names := fnNames f shared) (inp := inp) hf hs (fun r hr => thR_in ha hr) hno fuel.toNat 0 0 (f.blocks[0]'hf.one) (St.init f.regs.toNat (arrays ++ objects)) (St.init f.regs.toNat (arrays ++ objects)) hq (Nat.zero_le _)
    ⟨rfl, rfl, rfl, rfl, rfl, rfl, by show (List.replicate _ _).length = R; rw [List.length_replicate, hf.regs, Int.toNat_natCast], by show (List.replicate _ _).length = R; rw [List.length_replicate, hf.regs, Int.toNat_natCast], fun r _ _ => by rw [hz, hz]⟩
  unfold runOf
  rw [hv, hv']
  obtain ⟨_, h2, h3, h4, h5⟩ := h
  unfold Oc.like
  show ((runGo (turnFn a b f) shared arrays objects inp fuel).2.2.mem.take _ = _ ∧ _)
  have e : runGo (turnFn a b f) shared arrays objects inp fuel = go (f.blocks.map (turnBlk a b)) (fnNames f shared) inp fuel.toNat 0 0 (St.init f.regs.toNat (arrays ++ objects)) := rfl
  have e' : runGo f shared arrays objects inp fuel = go f.blocks (fnNames f shared) inp fuel.toNat 0 0 (St.init f.regs.toNat (arrays ++ objects)) := rfl
  refine ⟨?_, ?_, ?_, ?_, ?_⟩
  · show (runGo (turnFn a b f) shared arrays objects inp fuel).2.2.mem.take _ = (runGo f shared arrays objects inp fuel).2.2.mem.take _
    rw [e, e', h3]
  · show (runGo (turnFn a b f) shared arrays objects inp fuel).2.2.mem.drop _ = (runGo f shared arrays objects inp fuel).2.2.mem.drop _
    rw [e, e', h3]
  · show (runGo (turnFn a b f) shared arrays objects inp fuel).2.2.out = (runGo f shared arrays objects inp fuel).2.2.out
    rw [e, e', h4]
  · show (runGo (turnFn a b f) shared arrays objects inp fuel).2.2.read = (runGo f shared arrays objects inp fuel).2.2.read
    rw [e, e', h5]
  · show (runGo (turnFn a b f) shared arrays objects inp fuel).2.1 = (runGo f shared arrays objects inp fuel).2.1
    rw [e, e', h2]
/-- registers that the rows do not name together -/
theorem noInt_of {f : Fn} {R : Nat} {outs : List Nat} {a b : Nat} (hf : FormR f R) (hb : ∀ k, outs.getD k 0 < 2 ^ R) (ha : a < R) (hbb : b < R) (h : a = b ∨ ¬ SymP (DefS f outs f.blocks.length 0) R a b) : NoInt f R outs (a : Int) (b : Int) := by
  intro k q j i hq hi d hd r hr hl hne he
  rcases h with rfl | h
  · rw [thR_id, thR_id] at he; exact hne he
  · have hkl := (List.getElem?_eq_some_iff.1 hq).1
    have hD : ∀ x : Nat, d = (x : Int) → DefS f outs f.blocks.length 0 x r := fun x hx => ⟨k, q, j, i, .inl hkl, hq, hi, by rw [hd, hx], hl⟩
    unfold thR at he
    by_cases h1 : (r : Int) = (b : Int)
    · have h1 : r = b := by omega
      subst h1
      rw [if_pos rfl] at he
      by_cases h2 : d = (r : Int)
      · exact hne h2.symm
      · rw [if_neg h2] at he
        exact h (.inl ⟨hD a he.symm, fun e => h2 (by rw [← he, e.1])⟩)
    · rw [if_neg h1] at he
      by_cases h2 : d = (b : Int)
      · rw [if_pos h2] at he
        have h3 : r = a := by omega
        subst h3
        exact h (.inr ⟨hbb, fun e => h1 (by rw [e]), hD b h2⟩)
      · rw [if_neg h2] at he
        exact hne he
theorem sym_ne {D : Nat → Nat → Prop} {R a b : Nat} (ha : a < R) (h : SymP D R a b) : a ≠ b := by
  rcases h with ⟨_, h⟩ | ⟨_, h, _⟩
  · exact fun e => h ⟨e, ha⟩
  · exact h
theorem sym_swap {D : Nat → Nat → Prop} {R a b : Nat} (ha : a < R) (hb : b < R) (h : SymP D R a b) : SymP D R b a := by
  have hne := sym_ne ha h
  rcases h with ⟨h, _⟩ | ⟨_, _, h⟩
  · exact .inr ⟨ha, fun e => hne e.symm, h⟩
  · exact .inl ⟨h, fun e => hne e.1.symm⟩
theorem mem_putAt {α : Type} {l P : List α} {i : Nat} {x : α} (h : x ∈ putAt l i P) : x ∈ l ∨ x ∈ P := by
  unfold putAt at h
  rcases List.mem_append.1 h with h | h
  · rcases List.mem_append.1 h with h | h
    · exact .inl (List.mem_of_mem_take h)
    · exact .inr h
  · exact .inl (List.mem_of_mem_drop h)
/-- values that are set are words -/
def WordP (R : Nat) (P : List Ins) : Prop := ∀ i ∈ P, ∃ (v : Int) (r : Nat), i = setI v r ∧ r < R ∧ -2147483648 ≤ v ∧ v ≤ 2147483647
theorem fnOk_put {f : Fn} {R k0 i0 : Nat} {P : List Ins} {shared : List (ByteArray × Int)} (hf : FormR f R) (hP : WordP R P) (h : fnOk f shared = true) : fnOk { f with blocks := putFn f k0 i0 P } shared = true := by
  have hlen : (putFn f k0 i0 P).length = f.blocks.length := by unfold putFn; rw [List.length_mapIdx]
  refine fnOk_blocks (f := f) (g := { f with blocks := putFn f k0 i0 P }) rfl rfl hlen h (fun ns hall => ?_)
  rw [List.all_eq_true] at hall ⊢
  intro q' hq'
  obtain ⟨k, hk⟩ := List.getElem?_of_mem (show q' ∈ putFn f k0 i0 P from hq')
  unfold putFn at hk
  rw [List.getElem?_mapIdx] at hk
  obtain ⟨q, hq, rfl⟩ := Option.map_eq_some_iff.1 hk
  have hq0 := hall q (List.mem_of_getElem? hq)
  unfold blkOk at hq0 ⊢
  rw [Bool.and_eq_true] at hq0 ⊢
  show List.all (if k = k0 then putBlk q i0 P else q).code (insOk f.regs ns) = true ∧ endOk f.regs (putFn f k0 i0 P).length (if k = k0 then putBlk q i0 P else q) = true
  rw [hlen]
  by_cases e : k = k0
  · rw [if_pos e]
    refine ⟨List.all_eq_true.2 (fun i hi => ?_), hq0.2⟩
    rcases mem_putAt (show i ∈ putAt q.code i0 P from hi) with hi | hi
    · exact List.all_eq_true.1 hq0.1 i hi
    · obtain ⟨v, r, rfl, h1, h2, h3⟩ := hP i hi
      show (inReg (r : Int) f.regs && betw v (-2147483648) 2147483647 && ((0 : Int) == 0) && ((0 : Int) == 0) && (⟨#[]⟩ : ByteArray).toList.isEmpty) = true
      have e1 : inReg (r : Int) f.regs = true := by unfold inReg; rw [hf.regs]; simp; omega
      have e2 : betw v (-2147483648) 2147483647 = true := by unfold betw; simp; omega
      have e3 : (⟨#[]⟩ : ByteArray).toList.isEmpty = true := by rw [ByteArray.toList_eq]; rfl
      rw [e1, e2, e3]; rfl
  · rw [if_neg e]; exact hq0
theorem run_over {f : Fn} {R k0 i0 : Nat} {q0 : Blk} {ins outs : List Nat} {P : List Ins} {shared : List (ByteArray × Int)} {arrays objects : List (List Int)} {inp : List Int} {fuel : Int} (hf : FormR f R) (hs : Sol f R ins outs) (hq0 : f.blocks[k0]? = some q0) (hi0 : i0 ≤ q0.code.length)
    (hP : DeadP R (blkB q0 i0 (outs.getD k0 0)) P) (hPw : WordP R P) (hv : runFits f shared arrays objects = true) :
    (runOf { f with blocks := putFn f k0 i0 P } shared arrays objects inp fuel).err = 13 ∨ Oc.like (runOf f shared arrays objects inp fuel) (runOf { f with blocks := putFn f k0 i0 P } shared arrays objects inp fuel) := by
  have hv' : runFits { f with blocks := putFn f k0 i0 P } shared arrays objects = true := by
    unfold runFits at hv ⊢
    simp only [Bool.and_eq_true] at hv ⊢
    exact ⟨⟨fnOk_put hf hPw hv.1.1, hv.1.2⟩, hv.2⟩
  obtain ⟨s0, hs0⟩ : ∃ s, St.init f.regs.toNat (arrays ++ objects) = s := ⟨_, rfl⟩
  have hz : ∀ (L : Nat), RelS 0 0 R L s0 s0 := fun L => by
    rw [← hs0]
    exact ⟨rfl, rfl, rfl, rfl, rfl, rfl, by show (List.replicate _ _).length = R; rw [List.length_replicate, hf.regs, Int.toNat_natCast], by show (List.replicate _ _).length = R; rw [List.length_replicate, hf.regs, Int.toNat_natCast], fun r _ _ => by rw [thR_id]⟩
  have e : runGo { f with blocks := putFn f k0 i0 P } shared arrays objects inp fuel = go (putFn f k0 i0 P) (fnNames f shared) inp fuel.toNat 0 0 s0 := by rw [← hs0]; rfl
  have e' : runGo f shared arrays objects inp fuel = go f.blocks (fnNames f shared) inp fuel.toNat 0 0 s0 := by rw [← hs0]; rfl
  have hgo := go_over (names := fnNames f shared) (inp := inp) hf hs hq0 hi0 hP fuel.toNat
  by_cases h13 : (go (putFn f k0 i0 P) (fnNames f shared) inp fuel.toNat 0 0 s0).2.1 = 13
  · refine .inl ?_
    unfold runOf
    rw [hv']
    show (runGo { f with blocks := putFn f k0 i0 P } shared arrays objects inp fuel).2.1 = 13
    rw [e]; exact h13
  · have hq : f.blocks[0]? = some (f.blocks[0]'hf.one) := List.getElem?_eq_getElem hf.one
    have h : EndRel' (go f.blocks (fnNames f shared) inp fuel.toNat 0 0 s0) (go (putFn f k0 i0 P) (fnNames f shared) inp fuel.toNat 0 0 s0) := by
      by_cases h0 : 0 = k0 ∧ 0 = i0
      · obtain ⟨h1, h2⟩ := h0
        subst h1 h2
        exact hgo.2 0 s0 s0 (Nat.zero_le _) (hz _) h13
      · have hpl : plc k0 i0 P.length 0 0 = 0 := by unfold plc; exact if_neg (fun h => h0 ⟨h.1, by omega⟩)
        have h9 := hgo.1 0 0 (f.blocks[0]'hf.one) s0 s0 hq (Nat.zero_le _) (hz _) (fun h1 h2 => h0 ⟨h1, h2⟩)
        rw [hpl] at h9
        exact h9 h13
    refine .inr ?_
    obtain ⟨h2, h3, h4, h5⟩ := h
    unfold runOf
    rw [hv, hv']
    refine ⟨?_, ?_, ?_, ?_, ?_⟩
    · show (runGo { f with blocks := putFn f k0 i0 P } shared arrays objects inp fuel).2.2.mem.take _ = (runGo f shared arrays objects inp fuel).2.2.mem.take _
      rw [e, e', h3]
    · show (runGo { f with blocks := putFn f k0 i0 P } shared arrays objects inp fuel).2.2.mem.drop _ = (runGo f shared arrays objects inp fuel).2.2.mem.drop _
      rw [e, e', h3]
    · show (runGo { f with blocks := putFn f k0 i0 P } shared arrays objects inp fuel).2.2.out = (runGo f shared arrays objects inp fuel).2.2.out
      rw [e, e', h4]
    · show (runGo { f with blocks := putFn f k0 i0 P } shared arrays objects inp fuel).2.2.read = (runGo f shared arrays objects inp fuel).2.2.read
      rw [e, e', h5]
    · show (runGo { f with blocks := putFn f k0 i0 P } shared arrays objects inp fuel).2.1 = (runGo f shared arrays objects inp fuel).2.1
      rw [e, e', h2]
end Go.Proofs.YteknhnnlhhgppaaDoor
