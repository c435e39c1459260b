/-
  Contract: Interference (package liveness).
-/
import Derived.Test.YteknhnnlhhgppaaDoorLiveAfter
namespace Go.Proofs.YteknhnnlhhgppaaDoor
set_option linter.unusedVariables false
set_option linter.unusedSimpArgs false
open Go.RowKit
set_option maxRecDepth 100000
set_option maxHeartbeats 16000000

theorem make_sets (n : Nat) (hn : n ≤ 10000) (w : World) : (Instr.makeSlice 82 (.int .i64 (n : Int)) (.int .i64 (n : Int))).run Tryd.prog w = .ok (.slice (some ⟨w.heap.size, 0, none⟩) n n) (w.alloc (.cells (Array.replicate n (Value.slice none 0 0)) 86)) := by
  obtain ⟨i0, hi, hz0, hz1, hz2⟩ := info_parts Tryd.infoSet
  rw [run_make w 82 86 i0 _ Tryd.underlying82 hi hz0 .i64 .i64 n n (by omega) (by omega) (by rw [hz2]; omega) (by omega)]
  have e : madeCells (Value.slice none 0 0).cells (((n : Int)).toNat * i0.size) = (Array.replicate n (Value.slice none 0 0)) := by
    rw [hz1, Int.toNat_natCast, Nat.mul_one]
    apply Array.toList_inj.1
    rw [show (Value.slice none 0 0).cells = #[Value.slice none 0 0] from rfl, toList_madeCells_one, Array.toList_replicate]
  rw [e, Int.toNat_natCast]
/-- the row of sets while it is filled -/
structure FillSt (B R : Nat) (w : World) (rg : Nat) (rows : List (Value × Nat)) : Prop where
  ro : w.ownsRow B 86 1 (.slice (some ⟨rg, 0, none⟩) R R) R (rows.map (·.1) ++ List.replicate (R - rows.length) (.slice none 0 0))
  si : ∀ p ∈ rows, SetV B R w p.1 p.2
  ap : ∀ (i j : Nat) (p q : Value × Nat), i ≠ j → rows[i]? = some p → rows[j]? = some q → Apart p.1 q.1
  ze : ∀ p ∈ rows, p.2 = 0
theorem FillSt.start {B R : Nat} {w : World} (hR : R ≤ 12) (hB : B ≤ w.heap.size) : FillSt B R (w.alloc (.cells (Array.replicate R (Value.slice none 0 0)) 86)) w.heap.size [] := by
  refine ⟨?_, by simp, by simp, by simp⟩
  have h1 := World.ownsRow_lit (base := B) (e := 86) (size := 1) w (Array.replicate R (Value.slice none 0 0)) R hB (by unfold maxLen; omega) (by simp)
  simpa using h1
theorem FillSt.keep {B R rg : Nat} {w w' : World} {rows : List (Value × Nat)} (h : FillSt B R w rg rows) (hB : Below w.heap.size w w') : FillSt B R w' rg rows := ⟨ownsRow_below h.ro hB, fun p hp => (h.si p hp).keep hB, h.ap, h.ze⟩
theorem FillSt.put {B R rg : Nat} {w : World} {u : Value} {rows : List (Value × Nat)} (h : FillSt B R w rg rows) (hr : rows.length < R) (hu : SetV B R w u 0) (hne : ∀ p ∈ rows, Apart p.1 u) : FillSt B R (w.setCell ⟨rg, rows.length, none⟩ u) rg (rows ++ [(u, 0)]) := by
  have ht : Turn (.slice (some ⟨rg, 0, none⟩) R R) w (w.setCell ⟨rg, rows.length, none⟩ u) := Turn.set
  refine ⟨?_, fun p hp => ?_, fun i j p q hij h1 h2 => ?_, fun p hp => ?_⟩
  · have h9 := ownsRow_set (j := rows.length) (u := u) h.ro (by omega)
    have e : (rows.map (fun q : Value × Nat => q.1) ++ List.replicate (R - rows.length) (Value.slice none 0 0)).set rows.length u = (rows ++ [(u, 0)]).map (fun q : Value × Nat => q.1) ++ List.replicate (R - (rows ++ [(u, 0)]).length) (.slice none 0 0) := by
      rw [List.set_append_right _ _ (by simp), List.length_map, Nat.sub_self, show R - rows.length = (R - (rows.length + 1)) + 1 by omega, List.replicate_succ, List.set_cons_zero]
      simp
    rw [← e]
    exact h9
  · rcases List.mem_append.1 hp with hp | hp
    · exact (h.si p hp).other h.ro (by decide) ht
    · obtain rfl := List.mem_singleton.1 hp
      exact hu.other h.ro (by decide) ht
  · rw [List.getElem?_append] at h1 h2
    split at h1 <;> split at h2
    · exact h.ap i j p q hij h1 h2
    · have e : q = (u, 0) := by have := List.mem_of_getElem? h2; simpa using this
      rw [e]; exact hne p (List.mem_of_getElem? h1)
    · have e : p = (u, 0) := by have := List.mem_of_getElem? h1; simpa using this
      rw [e]; exact (hne q (List.mem_of_getElem? h2)).symm
    · have h3 := (List.getElem?_eq_some_iff.1 h1).1
      have h4 := (List.getElem?_eq_some_iff.1 h2).1
      simp at h3 h4
      omega
  · rcases List.mem_append.1 hp with hp | hp
    · exact h.ze p hp
    · obtain rfl := List.mem_singleton.1 hp
      rfl
theorem FillSt.row {B R rg : Nat} {w : World} {rows : List (Value × Nat)} (h : FillSt B R w rg rows) (hl : rows.length = R) : SetRow B R w (.slice (some ⟨rg, 0, none⟩) R R) rows := by
  refine ⟨?_, h.si, h.ap⟩
  have := h.ro
  rw [hl, Nat.sub_self, List.replicate_zero, List.append_nil] at this
  rw [hl]
  exact this
/-- both ways, up to row j -/
def SymP (D : Nat → Nat → Prop) (j a c : Nat) : Prop := (D a c ∧ ¬ (a = c ∧ a < j)) ∨ (c < j ∧ a ≠ c ∧ D c a)
theorem symP_zero {D : Nat → Nat → Prop} {a c : Nat} : SymP D 0 a c ↔ D a c := by unfold SymP; simp
theorem symP_next {D : Nat → Nat → Prop} {j a c : Nat} : SymP D (j + 1) a c ↔ (SymP D j a c ∧ ¬ (a = j ∧ c = j)) ∨ (c = j ∧ SymP D j j a ∧ a ≠ j) := by
  unfold SymP
  by_cases h1 : c = j
  · subst h1
    by_cases h2 : a = c
    · subst h2
      simp
    · have h3 : ¬ c = a := fun e => h2 e.symm
      constructor
      · rintro (⟨h, _⟩ | ⟨_, _, h⟩)
        · exact .inl ⟨.inl ⟨h, fun e => h2 e.1⟩, fun e => h2 e.1⟩
        · exact .inr ⟨rfl, .inl ⟨h, fun e => h3 e.1⟩, h2⟩
      · rintro (⟨(⟨h, _⟩ | ⟨h, _⟩), _⟩ | ⟨_, (⟨h, _⟩ | ⟨_, _, h⟩), _⟩)
        · exact .inl ⟨h, fun e => h2 e.1⟩
        · omega
        · exact .inr ⟨by omega, h2, h⟩
        · exact .inl ⟨h, fun e => h2 e.1⟩
  · constructor
    · rintro (⟨h, h4⟩ | ⟨h5, h6, h⟩)
      · exact .inl ⟨.inl ⟨h, fun e => h4 ⟨e.1, by omega⟩⟩, fun e => h1 e.2⟩
      · exact .inl ⟨.inr ⟨by omega, h6, h⟩, fun e => h1 e.2⟩
    · rintro (⟨(⟨h, h4⟩ | ⟨h5, h6, h⟩), h7⟩ | ⟨h8, _⟩)
      · exact .inl ⟨h, fun e => h4 ⟨e.1, by omega⟩⟩
      · exact .inr ⟨by omega, h6, h⟩
      · exact absurd h8 h1
def InterEnd (f : Fn) (R : Nat) (w : World) (e : Ending) (w' : World) : Prop :=
  ∃ v ins outs, ∃ (lrows : List (Value × List Int)) (ss : List Nat), e = .returned (.tuple #[v, .int .i64 0]) ∧ IRows w.heap.size w' v lrows ∧ ss.length = R ∧ lrows.map (·.2) = ss.map listB ∧ Sol f R ins outs ∧ (∀ a c, a < R → ((ss.getD a 0).testBit c = true ↔ SymP (DefS f outs f.blocks.length 0) R a c)) ∧ (∀ s ∈ ss, s < 2 ^ R) ∧ Below w.heap.size w w'
/-- lists[r] = u -/
theorem IRows.put {B g n c i : Nat} {w : World} {u : Value} {l : List Int} {rows : List (Value × List Int)} (h : IRows B w (.slice (some ⟨g, 0, none⟩) n c) rows) (hnn : n = rows.length) (hi : i < rows.length) (hu : IntRow B w u l) : IRows B (w.setCell ⟨g, i, none⟩ u) (.slice (some ⟨g, 0, none⟩) n c) (rows.set i (u, l)) := by
  subst hnn
  have ht : Turn (.slice (some ⟨g, 0, none⟩) rows.length c) w (w.setCell ⟨g, i, none⟩ u) := Turn.set
  refine ⟨?_, fun p hp => ?_⟩
  · have := ownsRow_set (j := i) (u := u) h.ro (by omega)
    rw [List.length_set, List.map_set]
    exact this
  · rcases List.mem_or_eq_of_mem_set hp with hp | rfl
    · exact row_other (h.ri p hp) h.ro (by decide) ht
    · exact row_other hu h.ro (by decide) ht
theorem inter_any (f : Fn) (R : Nat) (aa ba : Option Addr) (ac bc : Nat) (w : World) (hf : FnAt w f aa ba) (hF : FormF f) (hreg : f.regs = (R : Int)) (hR : R ≤ 12) (hbl : f.blocks.length ≤ 1000) (hcl : ∀ b ∈ f.blocks, b.code.length ≤ 1000000) (hT : TabAt 0 Lib.deBruijn64tab w) :
    Calls Tryd.prog 29 #[fnVal f.name f.regs aa f.arrays.length ac ba f.blocks.length bc] w (InterEnd f R w) := by
  have hFR : FormR f R := by
    have := hF.small (by omega)
    rwa [hreg, Int.toNat_natCast] at this
  have HF := Lib.hid hf
  have HFF := Lib.hid hF
  have HFR := Lib.hid hFR
  have HCL := Lib.hid hcl
  have HTAB0 := Lib.hid hT
  obtain ⟨n, hn⟩ : ∃ n, f.blocks.length = n := ⟨_, rfl⟩
  have HN := Lib.hid hn
  have HREG := Lib.hid hreg
  obtain ⟨W, hW⟩ : ∃ W : World, w.alloc (.cells #[.string f.name, .int .i64 (R : Int), .slice aa f.arrays.length ac, .slice ba n bc] 25) = W := ⟨_, rfl⟩
  have hWs : W.heap.size = w.heap.size + 1 := by rw [← hW]; simp
  have HWS := Lib.hid hWs
  have HBW : Hid (Below w.heap.size w W) := by show Below _ _ _; rw [← hW]; exact (Below.refl _ _).alloc (Nat.le_refl _) _
  have HX : Hid (W.heap[w.heap.size]? = some (.cells #[.string f.name, .int .i64 (R : Int), .slice aa f.arrays.length ac, .slice ba n bc] 25)) := by
    show _ = _
    rw [← hW]
    exact (MapKept.heap_alloc w _).1
  have HXC : Hid (∀ w', Below W.heap.size W w' → w'.cell? ⟨w.heap.size, 0, none⟩ = some (.string f.name) ∧ w'.cell? ⟨w.heap.size, 1, none⟩ = some (.int .i64 (R : Int)) ∧ w'.cell? ⟨w.heap.size, 2, none⟩ = some (.slice aa f.arrays.length ac) ∧ w'.cell? ⟨w.heap.size, 3, none⟩ = some (.slice ba n bc)) := fun w' h => by
    have h9 := (h.block _ (show w.heap.size < W.heap.size by omega)).trans HX.out
    exact ⟨cell_heap h9 0, cell_heap h9 1, cell_heap h9 2, cell_heap h9 3⟩
  obtain ⟨x0, x1, x2, x3⟩ := HXC.out W (Below.refl _ _)
  have QF : Hid (∀ w', Below w.heap.size w w' → Calls Tryd.prog 40 #[.agg #[.string f.name, .int .i64 (R : Int), .slice aa f.arrays.length ac, .slice ba n bc]] w' (fun e w'' => e = .returned (.bool true) ∧ Below w'.heap.size w' w'')) := fun w' h => by
    have h9 := wellFormed_any f aa ba ac bc w' (HF.out.below h) (by rw [HN.out]; omega) HCL.out
    rw [HREG.out, HN.out] at h9
    refine h9.mono fun e w'' ⟨r, he, hr, hB⟩ => ⟨?_, hB⟩
    rw [he, hr.2 HFF.out]
  rw [hn, hreg]
  rw [hn] at hbl
  have hmk := make_sets R (by omega)
  have hmi := make_ints R (by omega)
  clear hf hF hFR hcl hT hn hreg hWs
  go_enter Tryd.func29, Tryd.ntmps29
  go_wp2_with fail
  clear hW x0 x1 x2 x3
  refine (QF.out _ HBW.out).mono ?_
  rintro e w1 ⟨rfl, hB⟩
  have HB0 := Lib.hid hB
  obtain ⟨x0, x1, x2, x3⟩ := HXC.out w1 hB
  obtain ⟨M1, hM1⟩ : ∃ M1 : World, w1.alloc (.cells (Array.replicate R (Value.slice none 0 0)) 86) = M1 := ⟨_, rfl⟩
  have hM1s : M1.heap.size = w1.heap.size + 1 := by rw [← hM1]; simp
  have HBM1 : Hid (Below w1.heap.size w1 M1) := by show Below _ _ _; rw [← hM1]; exact (Below.refl _ _).alloc (Nat.le_refl _) _
  have HFS1 : Hid (FillSt w.heap.size R M1 w1.heap.size []) := by show FillSt _ _ _ _ _; rw [← hM1]; exact FillSt.start hR (Nat.le_trans HBW.out.size hB.size)
  obtain ⟨M2, hM2⟩ : ∃ M2 : World, M1.alloc (.cells #[.slice (some ⟨w1.heap.size, 0, none⟩) R R] 82) = M2 := ⟨_, rfl⟩
  have HBM2 : Hid (Below M1.heap.size M1 M2) := by show Below _ _ _; rw [← hM2]; exact (Below.refl _ _).alloc (Nat.le_refl _) _
  have HZ2 : Hid (M2.heap[M1.heap.size]? = some (.cells #[.slice (some ⟨w1.heap.size, 0, none⟩) R R] 82)) := by
    show _ = _
    rw [← hM2]
    exact (MapKept.heap_alloc M1 _).1
  have z0 : M2.cell? ⟨M1.heap.size, 0, none⟩ = some (.slice (some ⟨w1.heap.size, 0, none⟩) R R) := cell_heap HZ2.out 0
  have HFS2 := Lib.hid (HFS1.out.keep HBM2.out)
  have HM1S := Lib.hid hM1s
  have HBN2 : Hid (Below W.heap.size W M2) := below_step (below_step HB0.out HBM1.out) HBM2.out
  have HXB2 : Hid (M2.heap[w.heap.size]? = some (.cells #[.string f.name, .int .i64 (R : Int), .slice aa f.arrays.length ac, .slice ba n bc] 25)) := (HBN2.out.block _ (lt_heap HX.out)).trans HX.out
  have hr0 : (0 : Int) ≤ (R : Int) := by omega
  clear hB hM1s
  go_wp2_with fail
  clear hM1 hM2 x0 x1 x2 x3 z0 hmk
  go_loopw [21] (fun i wr => ∃ (j : Nat) (rows : List (Value × Nat)), j ≤ R ∧ i = .int .i64 (j : Int) ∧ rows.length = j ∧ FillSt w.heap.size R wr w1.heap.size rows ∧ wr.heap[M1.heap.size]? = some (.cells #[.slice (some ⟨w1.heap.size, 0, none⟩) R R] 82) ∧ wr.heap[w.heap.size]? = some (.cells #[.string f.name, .int .i64 (R : Int), .slice aa f.arrays.length ac, .slice ba n bc] 25) ∧ Below w.heap.size w wr) (fun i _ => R - (intOf i).toNat)
  case atStart => exact ⟨0, [], Nat.zero_le _, rfl, rfl, HFS2.out, HZ2.out, HXB2.out, HBW.out.trans (HBN2.out.mono HBW.out.size)⟩
  case round =>
    obtain ⟨j, rows, hj, rfl, hrl, hfs, hzb, hxb, hbw⟩ := hrel
    have HFS := Lib.hid hfs
    have HZB := Lib.hid hzb
    have HXB := Lib.hid hxb
    have HBWR := Lib.hid hbw
    have HRL := Lib.hid hrl
    have hj0 : (0 : Int) ≤ (j : Int) := by omega
    clear hrl hfs hzb hxb hbw
    by_cases hlt : j < R
    · have hlt2 : (j : Int) < (R : Int) := by omega
      have S0 : Hid (∀ w', Below wr.heap.size wr w' → w'.cell? ⟨M1.heap.size, 0, none⟩ = some (.slice (some ⟨w1.heap.size, 0, none⟩) R R) ∧ w'.cell? ⟨w.heap.size, 1, none⟩ = some (.int .i64 (R : Int))) := fun w' h => ⟨cell_heap ((h.block _ (lt_heap HZB.out)).trans HZB.out) 0, cell_heap ((h.block _ (lt_heap HXB.out)).trans HXB.out) 1⟩
      go_wp2_with fail
      refine wp_region_held_drew (S := fun w' => w'.cell? ⟨M1.heap.size, 0, none⟩ = some (.slice (some ⟨w1.heap.size, 0, none⟩) R R) ∧ w'.cell? ⟨w.heap.size, 1, none⟩ = some (.int .i64 (R : Int))) (by kernel_rfl) (S0.out _ (Below.refl _ _).drew) (fun hHeld => ?_)
      have HFD := Lib.hid (HFS.out.keep (Below.refl wr.heap.size wr).drew)
      have HDB : Hid (Below wr.heap.size wr wr.drew) := (Below.refl _ _).drew
      generalize hwd : wr.drew = D at hHeld HFD HDB ⊢
      clear hwd
      refine wpAnyH_take (i := 0) (v := .slice (some ⟨w1.heap.size, 0, none⟩) R R) rfl (by kernel_rfl) (by kernel_rfl) (by kernel_rfl) (fun _ _ _ h => h) (Or.inl ⟨by rfl, ?_⟩) (by assumption) ?_
      · intro w' hSw; obtain ⟨s0, s1⟩ := hSw; go_simp
      (try simp only [Act.put, List.getElem_toArray, List.getElem_cons_zero, List.setIfInBounds_toArray, List.set_cons_zero, List.set_cons_succ])
      refine wpAnyH_take (i := 1) (v := .int .i64 (j : Int)) rfl (by kernel_rfl) (by kernel_rfl) (by kernel_rfl) (fun _ _ _ h => h) (Or.inl ⟨by rfl, ?_⟩) (by assumption) ?_
      · intro w' hSw; go_simp
      (try simp only [Act.put, List.getElem_toArray, List.getElem_cons_zero, List.getElem_cons_succ, List.setIfInBounds_toArray, List.set_cons_zero, List.set_cons_succ])
      refine wpAnyH_take (i := 2) (v := .pointer (some ⟨w.heap.size, 1, none⟩)) rfl (by kernel_rfl) (by kernel_rfl) (by kernel_rfl) (fun _ _ _ h => h) (Or.inl ⟨by rfl, ?_⟩) (by assumption) ?_
      · intro w' hSw; go_simp
      (try simp only [Act.put, List.getElem_toArray, List.getElem_cons_zero, List.getElem_cons_succ, List.setIfInBounds_toArray, List.set_cons_zero, List.set_cons_succ])
      refine wpAnyH_take (i := 3) (v := .int .i64 (R : Int)) rfl (by kernel_rfl) (by kernel_rfl) (by kernel_rfl) (fun _ _ _ h => h) (Or.inl ⟨by rfl, ?_⟩) (by assumption) ?_
      · intro w' hSw; obtain ⟨s0, s1⟩ := hSw; go_simp
      (try simp only [Act.put, List.getElem_toArray, List.getElem_cons_zero, List.getElem_cons_succ, List.setIfInBounds_toArray, List.set_cons_zero, List.set_cons_succ])
      refine wpAnyH_ready (rs := [4]) (by kernel_rfl) (by simp) (AllReadyH.cons rfl (fun K hK => ?_) AllReadyH.nil)
      go_simp
      refine (empty_any R _ hR).mono ?_
      rintro e w2 ⟨ev, rfl, hE, hB2⟩
      have HE := Lib.hid (hE.base (B' := w.heap.size) (Nat.le_trans HBWR.out.size HDB.out.size))
      have HFE := Lib.hid (HFD.out.keep hB2)
      have HBE : Hid (Below wr.heap.size wr w2) := HDB.out.trans (hB2.mono HDB.out.size)
      have HAP : Hid (∀ p ∈ rows, Apart p.1 ev) := fun p hp => apart_lt (N := D.heap.size) (fun k hk => ((HFD.out.si p hp).own hk).2) (fun k hk => (hE.own hk).1)
      obtain ⟨eva, evc, rfl⟩ := ownsRow_val hE.row
      have f0 : w2.frozen? ⟨w1.heap.size, j, none⟩ = false := row_free HFE.out.ro j
      have f1 : ∃ v, w2.cell? ⟨w1.heap.size, j, none⟩ = some v := ⟨_, own_cell HFE.out.ro (List.getElem?_eq_getElem (by have := HRL.out; simp; omega))⟩
      obtain ⟨v9, f1⟩ := f1
      refine hK.out _ _ (S0.out _ HBE.out) (fun hHeld => ?_)
      clear hK K
      rename_i hOld
      clear hOld
      (try simp only [Act.put, List.getElem_toArray, List.getElem_cons_zero, List.getElem_cons_succ, List.setIfInBounds_toArray, List.set_cons_zero, List.set_cons_succ])
      clear hE hB2
      refine wpAnyH_take (i := 5) (v := .pointer (some ⟨w1.heap.size, j, none⟩)) rfl (by kernel_rfl) (by kernel_rfl) (by kernel_rfl) (fun _ _ _ h => h) (Or.inl ⟨by rfl, ?_⟩) (by assumption) ?_
      · intro w' hSw; go_simp
      (try simp only [Act.put, List.getElem_toArray, List.getElem_cons_zero, List.getElem_cons_succ, List.setIfInBounds_toArray, List.set_cons_zero, List.set_cons_succ])
      refine wpAnyH_ready (rs := [6]) (by kernel_rfl) (by simp) (AllReadyH.cons rfl (fun K hK => ?_) AllReadyH.nil)
      go_simp
      have HP9 := Lib.hid (HFE.out.put (by have := HRL.out; omega) HE.out HAP.out)
      rw [HRL.out] at HP9
      have hrow := HFE.out.ro
      have hzb9 : w2.heap[M1.heap.size]? = some (.cells #[.slice (some ⟨w1.heap.size, 0, none⟩) R R] 82) := (HBE.out.block _ (lt_heap HZB.out)).trans HZB.out
      have hxb9 : w2.heap[w.heap.size]? = some (.cells #[.string f.name, .int .i64 (R : Int), .slice aa f.arrays.length ac, .slice ba n bc] 25) := (HBE.out.block _ (lt_heap HXB.out)).trans HXB.out
      have HT9 : Hid (Turn (.slice (some ⟨w1.heap.size, 0, none⟩) R R) w2 (w2.setCell ⟨w1.heap.size, j, none⟩ (.slice eva (nw R) evc))) := Turn.set
      have HZ9 := Lib.hid (block_other hrow hzb9 (by decide) HT9.out)
      have HX9 := Lib.hid (block_other hrow hxb9 (by decide) HT9.out)
      have HB9 : Hid (Below w.heap.size w (w2.setCell ⟨w1.heap.size, j, none⟩ (.slice eva (nw R) evc))) := (HBWR.out.trans (HBE.out.mono HBWR.out.size))|>.setCell (p := ⟨w1.heap.size, j, none⟩) (ownsRow_lt hrow rfl).1 _
      clear hrow hzb9 hxb9
      refine hK.out _ _ (⟨cell_heap HZ9.out 0, cell_heap HX9.out 1⟩) (fun hHeld => ?_)
      clear hK K
      rename_i hOld
      clear hOld
      (try simp only [Act.put, List.getElem_toArray, List.getElem_cons_zero, List.getElem_cons_succ, List.setIfInBounds_toArray, List.set_cons_zero, List.set_cons_succ])
      refine wpAnyH_done (by kernel_rfl) ?_ _
      go_wp2_with fail
      exact ⟨⟨j + 1, _, by omega, by go_num, by have := HRL.out; simp; omega, HP9.out, HZ9.out, HX9.out, HB9.out⟩, by simp [intOf]; omega⟩
    · obtain rfl : R = j := by omega
      have HIS : Hid (IntSt f aa ba ac bc R n w.heap.size M1.heap.size w1.heap.size R wr.heap.size w wr rows) :=
        ⟨HXB.out, HZB.out, HFS.out.row HRL.out, HRL.out, HBWR.out, lt_heap HXB.out, lt_heap HZB.out, (ownsRow_lt HFS.out.ro rfl).2, fun p hp k hk => ((HFS.out.si p hp).own hk).2, Nat.le_refl _, HBWR.out.size⟩
      have x0 : wr.cell? ⟨w.heap.size, 0, none⟩ = some (.string f.name) := cell_heap HXB.out 0
      have x1 : wr.cell? ⟨w.heap.size, 1, none⟩ = some (.int .i64 (R : Int)) := cell_heap HXB.out 1
      have x2 : wr.cell? ⟨w.heap.size, 2, none⟩ = some (.slice aa f.arrays.length ac) := cell_heap HXB.out 2
      have x3 : wr.cell? ⟨w.heap.size, 3, none⟩ = some (.slice ba n bc) := cell_heap HXB.out 3
      go_wp2_with fail
      clear x0 x1 x2 x3
      refine (after_any f aa ba ac bc R n w.heap.size M1.heap.size w1.heap.size R w wr rows HF.out HFR.out HREG.out HN.out hbl HCL.out HIS.out HFS.out.ze).mono ?_
      rintro e w3 ⟨⟨u3, rfl⟩, sins, souts, rows1, hsol, hint, hfst, hbits⟩
      obtain ⟨T, hT⟩ : ∃ T, wr.heap.size = T := ⟨_, rfl⟩
      rw [hT] at hint
      obtain ⟨P, hP⟩ : ∃ P, DefS f souts n 0 = P := ⟨_, rfl⟩
      have HPE := Lib.hid hP
      rw [hP] at hbits
      have HI3 := Lib.hid hint
      have HSOL := Lib.hid hsol
      have HBITS0 : Hid (BitsAt R (SymP P 0) rows1) := fun a c ha => (hbits a c ha).trans symP_zero.symm
      have z0 : w3.cell? ⟨M1.heap.size, 0, none⟩ = some (.slice (some ⟨w1.heap.size, 0, none⟩) R R) := cell_heap hint.rbox 0
      clear hsol hint hfst hbits hP hT
      go_wp2_with fail
      clear z0
      obtain ⟨wo, rfl⟩ : ∃ wo : World, wo = wr := ⟨_, rfl⟩
      go_loopw [36] (fun i wi => ∃ (j : Nat) (rows2 : List (Value × Nat)), j ≤ R ∧ i = .int .i64 (j : Int) ∧ IntSt f aa ba ac bc R n w.heap.size M1.heap.size w1.heap.size R T w wi rows2 ∧ BitsAt R (SymP P j) rows2) (fun i _ => R - (intOf i).toNat)
      case atStart => exact ⟨0, rows1, Nat.zero_le _, rfl, HI3.out, HBITS0.out⟩
      case round =>
        obtain ⟨j, rows2, hj9, rfl, hint, hbits⟩ := hrel
        have HIJ := Lib.hid hint
        have HBJ := Lib.hid hbits
        have hj1 : (0 : Int) ≤ (j : Int) := by omega
        clear hint hbits
        by_cases hlt9 : j < R
        · skip
          have hlt3 : (j : Int) < (R : Int) := by omega
          obtain ⟨p, hp⟩ : ∃ p, rows2[j]? = some p := ⟨_, List.getElem?_eq_getElem (by rw [HIJ.out.len]; exact hlt9)⟩
          obtain ⟨u, t⟩ := p
          have HP := Lib.hid hp
          obtain ⟨p0, _, _⟩ := HIJ.out.row.cell HIJ.out.len.symm hp
          have hu := HIJ.out.row.si _ (List.mem_of_getElem? hp)
          obtain ⟨ua, uc, e9⟩ := ownsRow_val hu.row
          simp only at e9
          subst e9
          simp only at p0
          have HU := Lib.hid hu
          clear hp hu
          go_wp2_with fail
          refine (remove_any j _ HU.out hlt9).mono ?_
          rintro e w5 ⟨⟨u5, rfl⟩, hA, hT⟩
          have HI5 := Lib.hid (HIJ.out.turn HP.out hT hA)
          have HA5 := Lib.hid hA
          clear hA hT p0
          go_wp2_with fail
          refine (list_any _ HA5.out (tab_keep HTAB0.out HI5.out.bel)).mono ?_
          rintro e w6 ⟨lv, rfl, hL, hB6⟩
          obtain ⟨lva, lvc, rfl⟩ := hL.val
          have HL6 := Lib.hid hL
          have HI6 := Lib.hid (HI5.out.keep (hB6.mono HI5.out.t5))
          have htj : rows2.getD j (.bool false, 0) = (.slice ua (nw R) uc, t) := by rw [List.getD_eq_getElem?_getD, HP.out]; rfl
          have HB6 : Hid (BitsAt R (fun a c => (SymP P j a c ∧ ¬ (a = j ∧ c = j)) ∨ (c = j ∧ (a : Int) ∈ (listB (remB t j)).take 0)) (rows2.set j (.slice ua (nw R) uc, remB t j))) := fun a c ha => by
            rw [getD_set]
            have h9 := HBJ.out a c ha
            by_cases e : a = j
            · subst e
              rw [htj] at h9
              rw [if_pos ⟨rfl, by rw [HIJ.out.len]; exact hlt9⟩]
              show (remB t a).testBit c = true ↔ _
              rw [remB_bit t (Nat.lt_of_lt_of_le HU.out.lt (Nat.pow_le_pow_right (by omega) hR)) (by omega), Bool.and_eq_true, h9]
              simp
            · rw [if_neg (fun e' => e e'.1), h9]
              simp [e]
          have HTJ : Hid (∀ a : Nat, a < R → ((a : Int) ∈ listB (remB t j) ↔ SymP P j j a ∧ a ≠ j)) := fun a ha => by
            have h9 := HBJ.out j a hlt9
            rw [htj] at h9
            rw [mem_list (HA5.out.small), remB_bit t (Nat.lt_of_lt_of_le HU.out.lt (Nat.pow_le_pow_right (by omega) hR)) (by omega), Bool.and_eq_true, h9]
            simp
          have HLT : Hid (remB t j < 2 ^ R) := HA5.out.lt
          obtain ⟨ln, hln⟩ : ∃ ln, (listB (remB t j)).length = ln := ⟨_, rfl⟩
          have HLN := Lib.hid hln
          have hll := list_len (remB t j)
          rw [hln] at hll ⊢
          clear hL hB6 htj hln
          go_wp2_with fail
          obtain ⟨wq, rfl⟩ : ∃ wq : World, wq = wr := ⟨_, rfl⟩
          go_loopw [47] (fun i wi => ∃ (m : Nat) (rows4 : List (Value × Nat)), m ≤ ln ∧ i = .int .i64 (m : Int) ∧ IntSt f aa ba ac bc R n w.heap.size M1.heap.size w1.heap.size R T w wi rows4 ∧ BitsAt R (fun a c => (SymP P j a c ∧ ¬ (a = j ∧ c = j)) ∨ (c = j ∧ (a : Int) ∈ (listB (remB t j)).take m)) rows4 ∧ IntRow w5.heap.size wi (.slice lva (listB (remB t j)).length lvc) (listB (remB t j))) (fun i _ => ln - (intOf i).toNat)
          case atStart => exact ⟨0, _, Nat.zero_le _, rfl, HI6.out, HB6.out, HL6.out⟩
          case round =>
            obtain ⟨m, rows4, hm, rfl, hi4, hb4, hl4⟩ := hrel
            have HI4 := Lib.hid hi4
            have HB4 := Lib.hid hb4
            have HL4 := Lib.hid hl4
            have hm0 : (0 : Int) ≤ (m : Int) := by omega
            clear hi4 hb4 hl4
            by_cases hml : m < ln
            · have hml2 : (m : Int) < (ln : Int) := by omega
              have hmu : m < (listB (remB t j)).length := by rw [HLN.out]; exact hml
              obtain ⟨q, hq⟩ : ∃ q, (listB (remB t j))[m]? = some q := ⟨_, List.getElem?_eq_getElem hmu⟩
              obtain ⟨hq0, hq1⟩ := list_in HLT.out (List.mem_of_getElem? hq)
              obtain ⟨r, rfl⟩ : ∃ r : Nat, q = (r : Int) := ⟨q.toNat, by omega⟩
              have hrR : r < R := by omega
              have hr2 : (r : Int) < (R : Int) := by omega
              have HQ := Lib.hid hq
              obtain ⟨lb, rfl, _⟩ := own_some HL4.out (Nat.lt_of_le_of_lt (Nat.zero_le _) hmu)
              have lcell : wr.cell? ⟨lb, m, none⟩ = some (.int .i64 (r : Int)) := own_cell HL4.out (by rw [List.getElem?_map, hq]; rfl)
              obtain ⟨p, hp⟩ : ∃ p, rows4[r]? = some p := ⟨_, List.getElem?_eq_getElem (by rw [HI4.out.len]; exact hrR)⟩
              obtain ⟨ur, tr⟩ := p
              have HPR := Lib.hid hp
              obtain ⟨p0, _, _⟩ := HI4.out.row.cell HI4.out.len.symm hp
              have hu := HI4.out.row.si _ (List.mem_of_getElem? hp)
              obtain ⟨ura, urc, e9⟩ := ownsRow_val hu.row
              simp only at e9
              subst e9
              simp only at p0
              have HUR := Lib.hid hu
              have z0 : wr.cell? ⟨M1.heap.size, 0, none⟩ = some (.slice (some ⟨w1.heap.size, 0, none⟩) R R) := cell_heap HI4.out.rbox 0
              clear hp hu hq
              go_wp2_with fail
              refine (add_any j _ HUR.out hlt9).mono ?_
              rintro e w7 ⟨⟨u7, rfl⟩, hA, hT⟩
              have HI7 := Lib.hid (HI4.out.turn HPR.out hT hA)
              have HL7 : Hid (IntRow w5.heap.size w7 (.slice (some ⟨lb, 0, none⟩) (listB (remB t j)).length lvc) (listB (remB t j))) := row_other HL4.out HUR.out.row (by decide) hT
              have HB7 : Hid (BitsAt R (fun a c => (SymP P j a c ∧ ¬ (a = j ∧ c = j)) ∨ (c = j ∧ (a : Int) ∈ (listB (remB t j)).take (m + 1))) (rows4.set r (.slice ura (nw R) urc, addB tr j))) := fun a c ha => by
                rw [getD_set, take_snoc HQ.out]
                have h9 := HB4.out a c ha
                by_cases e : a = r
                · subst e
                  rw [if_pos ⟨rfl, by rw [HI4.out.len]; exact ha⟩]
                  have h8 : rows4.getD a (.bool false, 0) = (.slice ura (nw R) urc, tr) := by rw [List.getD_eq_getElem?_getD, HPR.out]; rfl
                  rw [h8] at h9
                  show (addB tr j).testBit c = true ↔ _
                  rw [addB_bit, Bool.or_eq_true, h9]
                  simp only [List.mem_append, List.mem_singleton, decide_eq_true_eq]
                  constructor
                  · rintro ((h | ⟨h, h'⟩) | h)
                    · exact .inl h
                    · exact .inr ⟨h, .inl h'⟩
                    · exact .inr ⟨h, .inr trivial⟩
                  · rintro (h | ⟨h, h' | _⟩)
                    · exact .inl (.inl h)
                    · exact .inl (.inr ⟨h, h'⟩)
                    · exact .inr h
                · rw [if_neg (fun e' => e e'.1), h9]
                  have h8 : ¬ (a : Int) = (r : Int) := fun e' => e (by omega)
                  simp [h8]
              clear hA hT p0 z0 lcell
              go_wp2_with fail
              exact ⟨⟨m + 1, _, by omega, by go_num, HI7.out, HB7.out, HL7.out⟩, by simp [intOf]; omega⟩
            · obtain rfl : ln = m := by omega
              have HBN : Hid (BitsAt R (SymP P (j + 1)) rows4) := fun a c ha => by
                rw [HB4.out a c ha, symP_next, List.take_of_length_le (by rw [HLN.out]; exact Nat.le_refl _)]
                show (SymP P j a c ∧ ¬ (a = j ∧ c = j)) ∨ (c = j ∧ (a : Int) ∈ listB (remB t j)) ↔ _
                rw [HTJ.out a ha]
              go_wp2_with fail
              exact ⟨⟨j + 1, rows4, by omega, by go_num, HI4.out, HBN.out⟩, by simp [intOf]; omega⟩
        · obtain rfl : R = j := by omega
          have x1 : wr.cell? ⟨w.heap.size, 1, none⟩ = some (.int .i64 (R : Int)) := cell_heap HIJ.out.fbox 1
          have z0 : wr.cell? ⟨M1.heap.size, 0, none⟩ = some (.slice (some ⟨w1.heap.size, 0, none⟩) R R) := cell_heap HIJ.out.rbox 0
          obtain ⟨M3, hM3⟩ : ∃ M3 : World, wr.alloc (.cells (Array.replicate R (Value.slice none 0 0)) 39) = M3 := ⟨_, rfl⟩
          have HBM3 : Hid (Below wr.heap.size wr M3) := by show Below _ _ _; rw [← hM3]; exact (Below.refl _ _).alloc (Nat.le_refl _) _
          have HI8 := Lib.hid (HIJ.out.keep (HBM3.out.mono HIJ.out.t5))
          have HLR0 : Hid (IRows T M3 (.slice (some ⟨wr.heap.size, 0, none⟩) R R) (List.replicate R (.slice none 0 0, []))) := by
            show IRows _ _ _ _
            rw [← hM3]
            refine ⟨?_, fun p hp => by rw [List.eq_of_mem_replicate hp]; exact IntRow.nil⟩
            have h1 := World.ownsRow_lit (base := T) (e := 39) (size := 1) wr (Array.replicate R (Value.slice none 0 0)) R HIJ.out.t5 (by unfold maxLen; omega) (by simp)
            simpa using h1
          have z1 : M3.cell? ⟨M1.heap.size, 0, none⟩ = some (.slice (some ⟨w1.heap.size, 0, none⟩) R R) := cell_heap HI8.out.rbox 0
          go_wp2_with fail
          clear hM3 z0 z1 x1 hmi
          obtain ⟨wq, rfl⟩ : ∃ wq : World, wq = wr := ⟨_, rfl⟩
          go_loopw [64] (fun i wi => ∃ (j : Nat) (lr : List (Value × List Int)), j ≤ R ∧ i = .int .i64 (j : Int) ∧ IntSt f aa ba ac bc R n w.heap.size M1.heap.size w1.heap.size R T w wi rows2 ∧ IRows T wi (.slice (some ⟨wq.heap.size, 0, none⟩) R R) lr ∧ lr.length = R ∧ lr.map (·.2) = ((rows2.map (·.2)).map listB).take j ++ List.replicate (R - j) []) (fun i _ => R - (intOf i).toNat)
          case atStart => exact ⟨0, _, Nat.zero_le _, rfl, HI8.out, HLR0.out, by simp, by simp⟩
          case round =>
            obtain ⟨k, lr, hk, rfl, hi9, hr9, hl9, hm9⟩ := hrel
            have HI9 := Lib.hid hi9
            have HR9 := Lib.hid hr9
            have HL9 := Lib.hid hl9
            have HM9 := Lib.hid hm9
            have hk0 : (0 : Int) ≤ (k : Int) := by omega
            clear hi9 hr9 hl9 hm9
            by_cases hkR : k < R
            · skip
              have hkR2 : (k : Int) < (R : Int) := by omega
              obtain ⟨p, hp⟩ : ∃ p, rows2[k]? = some p := ⟨_, List.getElem?_eq_getElem (by rw [HI9.out.len]; exact hkR)⟩
              obtain ⟨u, t⟩ := p
              have HP := Lib.hid hp
              obtain ⟨p0, _, _⟩ := HI9.out.row.cell HI9.out.len.symm hp
              have hu := HI9.out.row.si _ (List.mem_of_getElem? hp)
              obtain ⟨ua, uc, e9⟩ := ownsRow_val hu.row
              simp only at e9
              subst e9
              simp only at p0
              have HU := Lib.hid hu
              clear hp hu
              go_wp2_with fail
              refine (list_any _ HU.out (tab_keep HTAB0.out HI9.out.bel)).mono ?_
              rintro e w6 ⟨lv, rfl, hL, hB6⟩
              obtain ⟨lva, lvc, rfl⟩ := hL.val
              have HL6 := Lib.hid (show IntRow T w6 (.slice lva (listB t).length lvc) (listB t) from ownsRow_base hL HI9.out.t5)
              have HI6 := Lib.hid (HI9.out.keep (hB6.mono HI9.out.t5))
              have HR6 := Lib.hid (HR9.out.keep hB6)
              have f0 : w6.frozen? ⟨wq.heap.size, k, none⟩ = false := row_free HR6.out.ro k
              obtain ⟨v9, f1⟩ : ∃ v, w6.cell? ⟨wq.heap.size, k, none⟩ = some v := by
                have h9 := HR6.out.ro
                rw [HL9.out] at h9
                exact ⟨_, own_cell h9 (List.getElem?_eq_getElem (by rw [List.length_map, HL9.out]; exact hkR))⟩
              obtain ⟨W6, hW6⟩ : ∃ W6 : World, w6.setCell ⟨wq.heap.size, k, none⟩ (.slice lva (listB t).length lvc) = W6 := ⟨_, rfl⟩
              have HR7 : Hid (IRows T W6 (.slice (some ⟨wq.heap.size, 0, none⟩) R R) (lr.set k (.slice lva (listB t).length lvc, listB t))) := by show IRows _ _ _ _; rw [← hW6]; exact HR6.out.put HL9.out.symm (by rw [HL9.out]; exact hkR) HL6.out
              have HI7 : Hid (IntSt f aa ba ac bc R n w.heap.size M1.heap.size w1.heap.size R T w W6 rows2) := by
                show IntSt _ _ _ _ _ _ _ _ _ _ _ _ _ _ _
                rw [← hW6]
                exact HI6.out.keep ((Below.refl _ _).setCell (p := ⟨wq.heap.size, k, none⟩) (show T ≤ wq.heap.size from HIJ.out.t5) _)
              have HM7 : Hid ((lr.set k (.slice lva (listB t).length lvc, listB t)).map (fun q : Value × List Int => q.2) = ((rows2.map (·.2)).map listB).take (k + 1) ++ List.replicate (R - (k + 1)) []) := by
                show _ = _
                have hlen : ((rows2.map (fun q : Value × Nat => q.2)).map listB).length = R := by rw [List.length_map, List.length_map]; exact HI9.out.len
                rw [List.map_set, HM9.out, List.set_append_right _ _ (by rw [List.length_take, hlen]; omega), List.length_take, hlen, Nat.min_eq_left (by omega), Nat.sub_self, show R - k = (R - (k + 1)) + 1 by omega, List.replicate_succ, List.set_cons_zero, take_snoc (show ((rows2.map (fun q : Value × Nat => q.2)).map listB)[k]? = some (listB t) by rw [List.getElem?_map, List.getElem?_map, HP.out]; rfl), List.append_assoc]
                rfl
              clear hL hB6
              go_wp2_with fail
              clear hW6
              exact ⟨⟨k + 1, _, by omega, by go_num, HI7.out, HR7.out, by rw [List.length_set]; exact HL9.out, HM7.out⟩, by simp [intOf]; omega⟩
            · obtain rfl : R = k := by omega
              have HSS : Hid (lr.map (·.2) = (rows2.map (·.2)).map listB) := by
                show _ = _
                rw [HM9.out, Nat.sub_self, List.replicate_zero, List.append_nil, List.take_of_length_le (by rw [List.length_map, List.length_map, HI9.out.len]; exact Nat.le_refl _)]
              go_wp2_with fail
              go_ret2
              refine ⟨_, sins, souts, lr, rows2.map (·.2), rfl, HR9.out.base HIJ.out.t6, by rw [List.length_map]; exact HI9.out.len, HSS.out, HSOL.out, fun a c ha => ?_, fun s hs => ?_, HI9.out.bel⟩
              · rw [HN.out, HPE.out, ← HBJ.out a c ha]
                rw [List.getD_eq_getElem?_getD, List.getElem?_map, List.getD_eq_getElem?_getD]
                cases rows2[a]? <;> rfl
              · obtain ⟨p, hp, rfl⟩ := List.mem_map.1 hs
                exact (HI9.out.row.si p hp).lt
end Go.Proofs.YteknhnnlhhgppaaDoor
