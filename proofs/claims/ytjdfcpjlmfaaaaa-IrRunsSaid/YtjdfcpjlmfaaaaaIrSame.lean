/-
  The reference's validity is that of the package ir: plain facts (layer 17).
-/
import Derived.Test.YtjdfcpjlmfaaaaaRef17Valid
import Derived.Test.YtjdfcpjlmfaaaaaIrRunC
import Derived.Test.YtjdfcpjlmfaaaaaIrAwake
namespace Go.Proofs.Ytjdfcpjlmfaaaaa
set_option linter.unusedVariables false
set_option linter.unusedSimpArgs false
open Go.RowKit
set_option maxRecDepth 100000

/-! ### places of names -/
theorem idxFrom_in {name : ByteArray} : ∀ {l : List (ByteArray × Int)} {k : Nat}, name ∈ l.map (·.1) → idxFrom name l k = ((k + pos (l.map (·.1)) name : Nat) : Int) := by
  intro l
  induction l with
  | nil => intro k h; cases h
  | cons p l ih =>
    intro k hm
    unfold idxFrom
    by_cases h : p.1 = name
    · rw [if_pos (bytes_eq_iff.2 h)]
      simp [pos, List.findIdx_cons, h]
    · rw [if_neg (fun e => h (bytes_eq_iff.1 e)), ih (by
        rcases List.mem_cons.1 hm with e | e
        · exact absurd e.symm h
        · exact e)]
      simp [pos, List.findIdx_cons, h]
      omega
theorem idxFrom_out {name : ByteArray} : ∀ {l : List (ByteArray × Int)} {k : Nat}, name ∉ l.map (·.1) → idxFrom name l k = -1 := by
  intro l
  induction l with
  | nil => intro k _; rfl
  | cons p l ih =>
    intro k hm
    unfold idxFrom
    rw [List.map_cons, List.mem_cons, not_or] at hm
    rw [if_neg (fun e => hm.1 (bytes_eq_iff.1 e).symm), ih hm.2]
theorem idx_in {name : ByteArray} {l : List (ByteArray × Int)} (h : name ∈ l.map (·.1)) : idx l name = (pos (l.map (·.1)) name : Int) := by
  unfold idx
  rw [idxFrom_in h]
  simp
theorem idx_out {name : ByteArray} {l : List (ByteArray × Int)} (h : name ∉ l.map (·.1)) : idx l name = -1 := idxFrom_out h
theorem idx_neg {name : ByteArray} {l : List (ByteArray × Int)} : idx l name < 0 ↔ name ∉ l.map (·.1) := by
  constructor
  · intro h hm
    rw [idx_in hm] at h
    omega
  · intro h
    rw [idx_out h]
    omega
theorem idx_pos {name : ByteArray} {l : List (ByteArray × Int)} : 0 ≤ idx l name ↔ name ∈ l.map (·.1) := by
  have := idx_neg (name := name) (l := l)
  constructor
  · intro h; exact Classical.not_not.1 (fun hn => by have := this.2 hn; omega)
  · intro h; exact Classical.not_not.1 (fun hn => this.1 (by omega) h)
theorem pos_lt {names : List ByteArray} {n : ByteArray} (h : n ∈ names) : pos names n < names.length := List.findIdx_lt_length_of_exists ⟨n, h, by simp⟩
theorem pos_get {names : List ByteArray} {n : ByteArray} (h : n ∈ names) : names[pos names n]? = some n := by
  have hl := pos_lt h
  rw [List.getElem?_eq_getElem hl]
  have := List.findIdx_getElem (xs := names) (p := fun m => decide (m = n)) (w := hl)
  exact congrArg some (of_decide_eq_true this)
theorem pos_of {names : List ByteArray} (hn : names.Nodup) {i : Nat} {n : ByteArray} (h : names[i]? = some n) : pos names n = i := by
  obtain ⟨hi, rfl⟩ := List.getElem?_eq_some_iff.1 h
  have hm : names[i] ∈ names := List.getElem_mem hi
  have := pos_get hm
  rw [List.getElem?_eq_getElem (pos_lt hm)] at this
  exact (List.getElem_inj hn).1 (by injection this)
theorem nodup_iff_idx {l : List (ByteArray × Int)} : (∀ i, i < l.length → ∀ p, l[i]? = some p → idx l p.1 = (i : Int)) ↔ (l.map (·.1)).Nodup := by
  constructor
  · intro h
    rw [List.Nodup, List.pairwise_iff_getElem]
    intro i j hi hj hij e
    simp only [List.length_map] at hi hj
    simp only [List.getElem_map] at e
    have h1 := h i hi _ (List.getElem?_eq_getElem hi)
    have h2 := h j hj _ (List.getElem?_eq_getElem hj)
    rw [e, h2] at h1
    omega
  · intro h i hi p hp
    have hq : (l.map (·.1))[i]? = some p.1 := by rw [List.getElem?_map, hp]; rfl
    rw [idx_in (List.mem_of_getElem? hq), pos_of h hq]

/-! ### the names of a valid function -/
theorem addArrs_iff : ∀ {l : List (ByteArray × Int)} {ns ms : List (ByteArray × Bool)}, addArrs ns l = some ms ↔ (ms = ns ++ l.map (fun p => (p.1, true)) ∧ (∀ p ∈ l, 1 ≤ p.2 ∧ p.2 ≤ 32) ∧ (l.map (·.1)).Nodup ∧ ∀ p ∈ l, p.1 ∉ ns.map (·.1)) := by
  intro l
  induction l with
  | nil => intro ns ms; simp [addArrs]; exact eq_comm
  | cons p l ih =>
    intro ns ms
    unfold addArrs
    cases hb : ((lookB ns p.1).isSome || decide (p.2 < 1) || decide (32 < p.2)) with
    | true =>
      simp only [cond_true]
      constructor
      · intro h; cases h
      · rintro ⟨_, h2, _, h4⟩
        have h5 := lookB_none.2 (h4 p (by simp))
        have h6 := h2 p (by simp)
        rw [h5] at hb
        simp at hb
        omega
    | false =>
      simp only [cond_false]
      have h0 : (lookB ns p.1).isSome = false := by
        cases hq : (lookB ns p.1).isSome with
        | false => rfl
        | true => rw [hq] at hb; simp at hb
      rw [h0] at hb
      simp at hb
      have h0' := lookB_none.1 h0
      rw [ih]
      constructor
      · rintro ⟨h1, h2, h3, h4⟩
        refine ⟨by rw [h1]; simp, fun q hq => ?_, ?_, fun q hq => ?_⟩
        · rcases List.mem_cons.1 hq with rfl | hq
          · omega
          · exact h2 q hq
        · rw [List.map_cons, List.nodup_cons]
          refine ⟨fun hm => ?_, h3⟩
          obtain ⟨q, hq, he⟩ := List.mem_map.1 hm
          exact h4 q hq (by rw [he]; simp)
        · rcases List.mem_cons.1 hq with rfl | hq
          · exact h0'
          · exact fun hm => h4 q hq (by rw [List.map_append]; exact List.mem_append_left _ hm)
      · rintro ⟨h1, h2, h3, h4⟩
        rw [List.map_cons, List.nodup_cons] at h3
        refine ⟨by rw [h1]; simp, fun q hq => h2 q (List.mem_cons_of_mem _ hq), h3.2, fun q hq hm => ?_⟩
        rw [List.map_append] at hm
        rcases List.mem_append.1 hm with hm | hm
        · exact h4 q (List.mem_cons_of_mem _ hq) hm
        · simp at hm
          exact h3.1 (by rw [← hm]; exact List.mem_map_of_mem hq)
theorem addObjs_iff : ∀ {l : List (ByteArray × Int)} {ns ms : List (ByteArray × Bool)}, addObjs ns l = some ms ↔ (ms = ns ++ l.map (fun p => (p.1, false)) ∧ (l.map (·.1)).Nodup ∧ ∀ p ∈ l, p.1 ∉ ns.map (·.1)) := by
  intro l
  induction l with
  | nil => intro ns ms; simp [addObjs]; exact eq_comm
  | cons p l ih =>
    intro ns ms
    unfold addObjs
    cases hb : (lookB ns p.1).isSome with
    | true =>
      simp only [cond_true]
      constructor
      · intro h; cases h
      · rintro ⟨_, _, h4⟩
        have h5 := lookB_none.2 (h4 p (by simp))
        rw [h5] at hb
        cases hb
    | false =>
      simp only [cond_false]
      have h0' := lookB_none.1 hb
      rw [ih]
      constructor
      · rintro ⟨h1, h3, h4⟩
        refine ⟨by rw [h1]; simp, ?_, fun q hq => ?_⟩
        · rw [List.map_cons, List.nodup_cons]
          refine ⟨fun hm => ?_, h3⟩
          obtain ⟨q, hq, he⟩ := List.mem_map.1 hm
          exact h4 q hq (by rw [he]; simp)
        · rcases List.mem_cons.1 hq with rfl | hq
          · exact h0'
          · exact fun hm => h4 q hq (by rw [List.map_append]; exact List.mem_append_left _ hm)
      · rintro ⟨h1, h3, h4⟩
        rw [List.map_cons, List.nodup_cons] at h3
        refine ⟨by rw [h1]; simp, h3.2, fun q hq hm => ?_⟩
        rw [List.map_append] at hm
        rcases List.mem_append.1 hm with hm | hm
        · exact h4 q (List.mem_cons_of_mem _ hq) hm
        · simp at hm
          exact h3.1 (by rw [← hm]; exact List.mem_map_of_mem hq)
/-- the names with their kinds -/
def kinds (f : Fn) (shared : List (ByteArray × Int)) : List (ByteArray × Bool) := f.arrays.map (fun p => (p.1, true)) ++ shared.map (fun p => (p.1, false))
theorem namesOf_iff {f : Fn} {shared : List (ByteArray × Int)} {ms : List (ByteArray × Bool)} : namesOf f shared = some ms ↔ (ms = kinds f shared ∧ (∀ p ∈ f.arrays, 1 ≤ p.2 ∧ p.2 ≤ 32) ∧ (fnNames f shared).Nodup) := by
  unfold namesOf
  rw [Option.bind_eq_some_iff]
  constructor
  · rintro ⟨ns, h1, h2⟩
    obtain ⟨rfl, a1, a2, a3⟩ := addArrs_iff.1 h1
    obtain ⟨rfl, b1, b2⟩ := addObjs_iff.1 h2
    refine ⟨by simp [kinds], a1, ?_⟩
    unfold fnNames
    rw [List.nodup_append]
    refine ⟨a2, b1, fun s hs t ht e => ?_⟩
    subst e
    obtain ⟨q, hq, rfl⟩ := List.mem_map.1 ht
    exact b2 q hq (by simpa using hs)
  · rintro ⟨rfl, h1, h2⟩
    unfold fnNames at h2
    rw [List.nodup_append] at h2
    refine ⟨_, addArrs_iff.2 ⟨rfl, h1, h2.1, fun p hp => by simp⟩, addObjs_iff.2 ⟨by simp [kinds], h2.2.1, fun q hq hm => ?_⟩⟩
    simp only [List.nil_append, List.map_map] at hm
    exact h2.2.2 q.1 (by simpa using hm) q.1 (List.mem_map_of_mem hq) rfl
theorem find_in {l : List (ByteArray × Int)} {b : Bool} {s : ByteArray} : s ∈ l.map (·.1) → (l.map (fun p => (p.1, b))).find? (fun p => decide (p.1 = s)) = some (s, b) := by
  induction l with
  | nil => intro h; cases h
  | cons p l ih =>
    intro hm
    rw [List.map_cons, List.find?_cons]
    by_cases h : p.1 = s
    · simp [h]
    · simp only [h, decide_false]
      rcases List.mem_cons.1 hm with e | e
      · exact absurd e.symm h
      · exact ih e
theorem find_out {l : List (ByteArray × Int)} {b : Bool} {s : ByteArray} (h : s ∉ l.map (·.1)) : (l.map (fun p => (p.1, b))).find? (fun p => decide (p.1 = s)) = none := by
  rw [List.find?_eq_none]
  intro p hp
  obtain ⟨q, hq, rfl⟩ := List.mem_map.1 hp
  simp only [decide_eq_true_eq]
  exact fun e => h (e ▸ List.mem_map_of_mem hq)
theorem lookB_kinds {f : Fn} {shared : List (ByteArray × Int)} (hn : (fnNames f shared).Nodup) (s : ByteArray) : (lookB (kinds f shared) s == some true) = decide (0 ≤ idx f.arrays s) ∧ (lookB (kinds f shared) s == some false) = decide (0 ≤ idx shared s) := by
  unfold lookB kinds
  rw [List.find?_append]
  by_cases h1 : s ∈ f.arrays.map (·.1)
  · have h2 : s ∉ shared.map (·.1) := fun h => by
      unfold fnNames at hn
      exact (List.nodup_append.1 hn).2.2 s h1 s h rfl
    rw [find_in h1, idx_in h1, idx_out h2]
    exact ⟨by simp, rfl⟩
  · rw [find_out h1, idx_out h1]
    by_cases h2 : s ∈ shared.map (·.1)
    · rw [find_in h2, idx_in h2]
      exact ⟨rfl, by simp⟩
    · rw [find_out h2, idx_out h2]
      exact ⟨rfl, rfl⟩

/-! ### instructions -/
theorem shape_full {k : Nat} (h : k < 17) : (shapeOf (k : Int)).toList.isEmpty = decide (k = 0) := by
  rw [ByteArray.toList_eq]
  match k, h with
  | 0, _ => rfl
  | 1, _ => rfl
  | 2, _ => rfl
  | 3, _ => rfl
  | 4, _ => rfl
  | 5, _ => rfl
  | 6, _ => rfl
  | 7, _ => rfl
  | 8, _ => rfl
  | 9, _ => rfl
  | 10, _ => rfl
  | 11, _ => rfl
  | 12, _ => rfl
  | 13, _ => rfl
  | 14, _ => rfl
  | 15, _ => rfl
  | 16, _ => rfl
  | k + 17, h => exact absurd h (by omega)
theorem ins_same {regs : Int} {ns : List (ByteArray × Bool)} {arrays shared : List (ByteArray × Int)} {i : Ins} (h0 : 0 ≤ i.op) (hT : (lookB ns i.sym == some true) = decide (0 ≤ idx arrays i.sym)) (hF : (lookB ns i.sym == some false) = decide (0 ≤ idx shared i.sym)) : insOk regs ns i = refInsOk regs arrays shared i := by
  obtain ⟨op, dst, x, y, imm, sym⟩ := i
  simp only at h0 hT hF
  obtain ⟨k, rfl⟩ := Int.eq_ofNat_of_zero_le h0
  unfold refInsOk symOk regsOf
  simp only
  rw [← hT, ← hF]
  generalize hA : (lookB ns sym == some true) = A
  generalize hB : (lookB ns sym == some false) = B
  by_cases h17 : 17 ≤ k
  · rw [shape_none (by omega)]
    unfold insOk
    have e1 : ¬ (k : Int) = 1 := by omega
    have e2 : ¬ (k : Int) = 2 := by omega
    have e3 : ¬ (k : Int) = 3 := by omega
    have e4 : ¬ (k : Int) = 4 := by omega
    have e5 : ¬ (k : Int) = 5 := by omega
    have e6 : ¬ (k : Int) = 6 := by omega
    have e7 : ¬ (k : Int) = 7 := by omega
    have e8 : ¬ (k : Int) = 8 := by omega
    have e9 : ¬ (k : Int) = 9 := by omega
    have e10 : ¬ (k : Int) = 10 := by omega
    have e11 : ¬ (k : Int) = 11 := by omega
    have e12 : ¬ (k : Int) = 12 := by omega
    have e13 : ¬ (k : Int) = 13 := by omega
    have e14 : ¬ (k : Int) = 14 := by omega
    have e15 : ¬ (k : Int) = 15 := by omega
    have e16 : ¬ (k : Int) = 16 := by omega
    simp [e1, e2, e3, e4, e5, e6, e7, e8, e9, e10, e11, e12, e13, e14, e15, e16, aw_empty]
  · rw [shape_d (by omega), shape_x (by omega), shape_y (by omega), shape_full (by omega)]
    generalize hE : sym.toList.isEmpty = E
    clear hT hF h0
    match k, h17 with
    | 0, _ => (simp [insOk]; done)
    | 1, _ => (rw [Bool.eq_iff_iff]; cases A <;> cases B <;> cases E <;> simp [insOk, immOk, regOk, inReg, betw, hA, hB, hE] <;> omega)
    | 2, _ => (rw [Bool.eq_iff_iff]; cases A <;> cases B <;> cases E <;> simp [insOk, immOk, regOk, inReg, betw, hA, hB, hE] <;> omega)
    | 3, _ => (rw [Bool.eq_iff_iff]; cases A <;> cases B <;> cases E <;> simp [insOk, immOk, regOk, inReg, betw, hA, hB, hE] <;> omega)
    | 4, _ => (rw [Bool.eq_iff_iff]; cases A <;> cases B <;> cases E <;> simp [insOk, immOk, regOk, inReg, betw, hA, hB, hE] <;> omega)
    | 5, _ => (rw [Bool.eq_iff_iff]; cases A <;> cases B <;> cases E <;> simp [insOk, immOk, regOk, inReg, betw, hA, hB, hE] <;> omega)
    | 6, _ => (rw [Bool.eq_iff_iff]; cases A <;> cases B <;> cases E <;> simp [insOk, immOk, regOk, inReg, betw, hA, hB, hE] <;> omega)
    | 7, _ => (rw [Bool.eq_iff_iff]; cases A <;> cases B <;> cases E <;> simp [insOk, immOk, regOk, inReg, betw, hA, hB, hE] <;> omega)
    | 8, _ => (rw [Bool.eq_iff_iff]; cases A <;> cases B <;> cases E <;> simp [insOk, immOk, regOk, inReg, betw, hA, hB, hE] <;> omega)
    | 9, _ => (rw [Bool.eq_iff_iff]; cases A <;> cases B <;> cases E <;> simp [insOk, immOk, regOk, inReg, betw, hA, hB, hE] <;> omega)
    | 10, _ => (rw [Bool.eq_iff_iff]; cases A <;> cases B <;> cases E <;> simp [insOk, immOk, regOk, inReg, betw, hA, hB, hE] <;> omega)
    | 11, _ => (rw [Bool.eq_iff_iff]; cases A <;> cases B <;> cases E <;> simp [insOk, immOk, regOk, inReg, betw, hA, hB, hE] <;> omega)
    | 12, _ => (rw [Bool.eq_iff_iff]; cases A <;> cases B <;> cases E <;> simp [insOk, immOk, regOk, inReg, betw, hA, hB, hE] <;> omega)
    | 13, _ => (rw [Bool.eq_iff_iff]; cases A <;> cases B <;> cases E <;> simp [insOk, immOk, regOk, inReg, betw, hA, hB, hE] <;> omega)
    | 14, _ => (rw [Bool.eq_iff_iff]; cases A <;> cases B <;> cases E <;> simp [insOk, immOk, regOk, inReg, betw, hA, hB, hE] <;> omega)
    | 15, _ => (rw [Bool.eq_iff_iff]; cases A <;> cases B <;> cases E <;> simp [insOk, immOk, regOk, inReg, betw, hA, hB, hE] <;> omega)
    | 16, _ => (rw [Bool.eq_iff_iff]; cases A <;> cases B <;> cases E <;> simp [insOk, immOk, regOk, inReg, betw, hA, hB, hE] <;> omega)
    | k + 17, h => exact absurd (by omega) h

/-! ### functions -/
theorem ref_same {f : Fn} {shared : List (ByteArray × Int)} (hop : ∀ b ∈ f.blocks, ∀ i ∈ b.code, 0 ≤ i.op) : RefOk f shared ↔ fnOk f shared = true := by
  have hn : ((∀ i, i < f.arrays.length → arrOkR f shared i) ∧ (∀ i, i < shared.length → objOkR shared i)) ↔ ((∀ p ∈ f.arrays, 1 ≤ p.2 ∧ p.2 ≤ 32) ∧ (fnNames f shared).Nodup) := by
    constructor
    · rintro ⟨h1, h2⟩
      have ha := nodup_iff_idx.1 (fun i hi p hp => (h1 i hi p hp).2.2.1)
      have hb := nodup_iff_idx.1 (fun i hi p hp => h2 i hi p hp)
      refine ⟨fun p hp => ?_, ?_⟩
      · obtain ⟨i, hi⟩ := List.getElem?_of_mem hp
        have := h1 i (List.getElem?_eq_some_iff.1 hi).1 p hi
        exact ⟨this.1, this.2.1⟩
      · unfold fnNames
        rw [List.nodup_append]
        refine ⟨ha, hb, fun s hs t ht e => ?_⟩
        subst e
        obtain ⟨p, hp, rfl⟩ := List.mem_map.1 hs
        obtain ⟨i, hi⟩ := List.getElem?_of_mem hp
        have := (h1 i (List.getElem?_eq_some_iff.1 hi).1 p hi).2.2.2
        exact idx_neg.1 this ht
    · rintro ⟨h1, h2⟩
      unfold fnNames at h2
      obtain ⟨ha, hb, hc⟩ := List.nodup_append.1 h2
      refine ⟨fun i hi p hp => ⟨(h1 p (List.mem_of_getElem? hp)).1, (h1 p (List.mem_of_getElem? hp)).2, nodup_iff_idx.2 ha i hi p hp, idx_neg.2 (fun hm => hc p.1 (List.mem_map_of_mem (List.mem_of_getElem? hp)) p.1 hm rfl)⟩, fun i hi p hp => nodup_iff_idx.2 hb i hi p hp⟩
  have hb : (fnNames f shared).Nodup → f.blocks.all (blkOkR f shared) = f.blocks.all (blkOk f (kinds f shared)) := by
    intro hd
    have e : ∀ b ∈ f.blocks, blkOkR f shared b = blkOk f (kinds f shared) b := by
      intro b hb
      unfold blkOkR blkOk
      congr 1
      rw [Bool.eq_iff_iff, List.all_eq_true, List.all_eq_true]
      constructor <;> (intro h i hi; have := h i hi; have l := lookB_kinds hd i.sym; have s := ins_same (regs := f.regs) (hop b hb i hi) l.1 l.2)
      · rw [s]; exact this
      · rw [← s]; exact this
    rw [Bool.eq_iff_iff, List.all_eq_true, List.all_eq_true]
    exact ⟨fun h b hb => by rw [← e b hb]; exact h b hb, fun h b hb => by rw [e b hb]; exact h b hb⟩
  constructor
  · rintro ⟨h1, h2, h3, h4, h5, h6, h7⟩
    obtain ⟨a, d⟩ := hn.1 ⟨h5, h6⟩
    unfold fnOk
    rw [namesOf_iff.2 ⟨rfl, a, d⟩]
    rw [hb d] at h7
    have h1' : ¬ f.blocks.length = 0 := by omega
    rw [decide_eq_true h2, decide_eq_true h3, decide_eq_true h4, beq_eq_false_iff_ne.2 h1']
    simpa using h7
  · intro h
    obtain ⟨h1, h2, h3, h4, ns, h5, h6⟩ := fnOk_parts h
    obtain ⟨rfl, a, d⟩ := namesOf_iff.1 h5
    obtain ⟨h7, h8⟩ := hn.2 ⟨a, d⟩
    exact ⟨h1, h2, h3, h4, h7, h8, by rw [hb d]; exact h6⟩
end Go.Proofs.Ytjdfcpjlmfaaaaa
