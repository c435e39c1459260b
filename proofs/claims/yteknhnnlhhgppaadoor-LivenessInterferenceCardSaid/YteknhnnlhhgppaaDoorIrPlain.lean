/-
  Contract: Plain (package ontimelaw17).
-/
import Derived.Test.YteknhnnlhhgppaaDoorMg5
import Derived.Test.YteknhnnlhhgppaaDoorMg0
import Derived.Test.YteknhnnlhhgppaaDoorMg4
import Derived.Test.YteknhnnlhhgppaaDoorMg8
import Derived.Test.YteknhnnlhhgppaaDoorIrStep
import Derived.BigRegion
import Derived.Deep.QuietTactic
import Derived.BigQuiet
import Derived.Deep.RegionLaw
import Derived.Deep.RegionHeld
import Derived.OrdersHeld
namespace Go.Proofs.YteknhnnlhhgppaaDoor
set_option linter.unusedVariables false
set_option linter.unusedSimpArgs false
open Go.RowKit
set_option maxRecDepth 100000

theorem Tryd.infoRIns : (Tryd.prog.info? 91).map (fun i => (i.zero, i.size, i.bytes)) = some (some (.agg #[.int .u8 0, .int .i64 0, .int .i64 0, .int .i64 0, .int .i64 0, .string ⟨#[]⟩]), 6, 56) := by kernel_rfl
theorem Tryd.infoRBlk : (Tryd.prog.info? 90).map (fun i => (i.zero, i.size, i.bytes)) = some (some (.agg #[.slice none 0 0, .int .u8 0, .int .i64 0, .int .i64 0, .int .i64 0]), 5, 56) := by kernel_rfl
theorem four_set {w : World} {b : Nat} {t : TypeId} {a0 a1 a2 a3 v0 v1 v2 v3 : Value} (h : w.heap[b]? = some (.cells #[a0, a1, a2, a3] t)) :
    ((((w.setCell ⟨b, 0, none⟩ v0).setCell ⟨b, 1, none⟩ v1).setCell ⟨b, 2, none⟩ v2).setCell ⟨b, 3, none⟩ v3).heap[b]? = some (.cells #[v0, v1, v2, v3] t) := by
  have h0 := setCell_heap (i := 0) (v := v0) h
  have h1 := setCell_heap (i := 1) (v := v1) h0
  have h2 := setCell_heap (i := 2) (v := v2) h1
  have h3 := setCell_heap (i := 3) (v := v3) h2
  simpa using h3
theorem four_below {w : World} {B b : Nat} {a : World} {v0 v1 v2 v3 : Value} (h : Below B a w) (hb : B ≤ b) :
    Below B a ((((w.setCell ⟨b, 0, none⟩ v0).setCell ⟨b, 1, none⟩ v1).setCell ⟨b, 2, none⟩ v2).setCell ⟨b, 3, none⟩ v3) :=
  (((h.setCell hb _).setCell hb _).setCell hb _).setCell hb _
theorem four_other {w : World} {b k : Nat} {v0 v1 v2 v3 : Value} (hk : k ≠ b) :
    ((((w.setCell ⟨b, 0, none⟩ v0).setCell ⟨b, 1, none⟩ v1).setCell ⟨b, 2, none⟩ v2).setCell ⟨b, 3, none⟩ v3).heap[k]? = w.heap[k]? := by
  rw [Below.heap_setCell _ _ _ _ hk, Below.heap_setCell _ _ _ _ hk, Below.heap_setCell _ _ _ _ hk, Below.heap_setCell _ _ _ _ hk]

theorem codeCells_snoc (l : List Ins) (q : Ins) : codeCells (l ++ [q]) = codeCells l ++ q.cells := flat_snoc l q
theorem inner_push {N X m gb cap : Nat} {E T : TypeId} {V wi D w2 : World} {vc c1 c2 c3 c4 : Value} {xs news : List Value} (hX : X < N) (hbox : wi.heap[X]? = some (.cells #[vc, c1, c2, c3, c4] T)) (hB : Below V.heap.size V wi) (hVX : V.heap.size ≤ X) (hown : wi.ownsRow N E 6 vc m xs)
    (hA : Below wi.heap.size wi D) (hg : D.grownBy w2 vc.ownBlock) (ho : w2.ownsRow N E 6 (.slice (some ⟨gb, 0, none⟩) (m + 1) cap) (m + 1) (xs ++ news)) :
    (w2.setCell ⟨X, 0, none⟩ (.slice (some ⟨gb, 0, none⟩) (m + 1) cap)).ownsRow N E 6 (.slice (some ⟨gb, 0, none⟩) (m + 1) cap) (m + 1) (xs ++ news) ∧
    (w2.setCell ⟨X, 0, none⟩ (.slice (some ⟨gb, 0, none⟩) (m + 1) cap)).heap[X]? = some (.cells #[.slice (some ⟨gb, 0, none⟩) (m + 1) cap, c1, c2, c3, c4] T) ∧ Below V.heap.size V (w2.setCell ⟨X, 0, none⟩ (.slice (some ⟨gb, 0, none⟩) (m + 1) cap)) := by
  have hXi := lt_heap hbox
  have hne : ∀ k, vc.ownBlock = some k → N ≤ k := fun k hk => (ownsRow_lt hown hk).1
  have hX2 : w2.heap[X]? = some (.cells #[vc, c1, c2, c3, c4] T) := (hg.block X (Nat.lt_of_lt_of_le hXi hA.size) (fun e => by have := hne _ e.symm; omega)).trans ((hA.block X hXi).trans hbox)
  refine ⟨ownsRow_move ho (fun k hk _ => Below.heap_setCell _ _ _ _ (fun e => ?_)), by rw [setCell_heap hX2]; simp, ((hB.trans (hA.mono hB.size)).grown hg (Nat.le_trans hB.size hA.size) (fun k hk => ?_)).setCell (by exact hVX) _⟩
  · have := (ownsRow_lt ho hk).1
    have e : k = X := e
    omega
  · have := hne _ hk
    omega
theorem inner_box {N X m : Nat} {E T : TypeId} {wi D w2 : World} {vc c1 c2 c3 c4 : Value} {xs : List Value} (hX : X < N) (hbox : wi.heap[X]? = some (.cells #[vc, c1, c2, c3, c4] T)) (hown : wi.ownsRow N E 6 vc m xs)
    (hA : Below wi.heap.size wi D) (hg : D.grownBy w2 vc.ownBlock) : w2.heap[X]? = some (.cells #[vc, c1, c2, c3, c4] T) :=
  (hg.block X (Nat.lt_of_lt_of_le (lt_heap hbox) hA.size) (fun e => by have := (ownsRow_lt hown e.symm).1; omega)).trans ((hA.block X (lt_heap hbox)).trans hbox)
/-- what the inner statement reads, apart from the row -/
def SP (B : Nat) (a : Option Addr) (n c cb o : Nat) (q : Ins) (w : World) : Prop := w.cell? ⟨B, 0, none⟩ = some (.slice a n c) ∧ InsAt w cb o q

section
set_option maxHeartbeats 8000000
theorem plain_any (f : Fn) (aa ba : Option Addr) (ac bc : Nat) (w : World) (hf : FnAt w f aa ba) (hbl : f.blocks.length ≤ 1000000) (hcl : ∀ b ∈ f.blocks, b.code.length ≤ 1000000) :
    Calls Tryd.prog 13 #[fnVal f.name f.regs aa f.arrays.length ac ba f.blocks.length bc] w fun e w' =>
      ∃ ba' bc', e = .returned (fnVal f.name f.regs aa f.arrays.length ac ba' f.blocks.length bc') ∧ FnAt w' f aa ba' ∧ Below w.heap.size w w' := by
  have HF := Lib.hid hf
  have lb := hf.blocks.fits
  have HCL := Lib.hid hcl
  clear hf hcl
  obtain ⟨W, hW⟩ : ∃ W : World, (w.alloc (.cells #[.string f.name, .int .i64 f.regs, .slice aa f.arrays.length ac, .slice ba f.blocks.length bc] 25)).alloc (.cells #[.string ⟨#[]⟩, .int .i64 0, .slice none 0 0, .slice none 0 0] 36) = W := ⟨_, rfl⟩
  have hWs : W.heap.size = w.heap.size + 2 := by rw [← hW]; simp
  have HBW : Hid (Below w.heap.size w W) := by show Below _ _ _; rw [← hW]; exact ((Below.refl _ _).alloc (Nat.le_refl _) _).alloc (by simp) _
  have x0 : W.cell? ⟨w.heap.size, 0, none⟩ = some (.string f.name) := by rw [← hW]; simp [World.cell?_alloc_past]
  have x1 : W.cell? ⟨w.heap.size, 1, none⟩ = some (.int .i64 f.regs) := by rw [← hW]; simp [World.cell?_alloc_past]
  have x2 : W.cell? ⟨w.heap.size, 2, none⟩ = some (.slice aa f.arrays.length ac) := by rw [← hW]; simp [World.cell?_alloc_past]
  have x3 : W.cell? ⟨w.heap.size, 3, none⟩ = some (.slice ba f.blocks.length bc) := by rw [← hW]; simp [World.cell?_alloc_past]
  have HX := Lib.hid x3
  have HZ : Hid (W.heap[w.heap.size + 1]? = some (.cells #[.string ⟨#[]⟩, .int .i64 0, .slice none 0 0, .slice none 0 0] 36)) := by
    show _ = _
    rw [← hW]
    exact MapKept.heap_alloc (w.alloc _) _ |>.1 |> fun h => by simpa using h
  go_enter Tryd.func13, Tryd.ntmps13
  go_wp2_with fail
  clear hW x0 x1 x2 x3
  have hWn : (W.alloc (.cells #[.string f.name, .int .i64 f.regs, .slice aa f.arrays.length ac, .slice none 0 0] 36)).heap.size = w.heap.size + 3 := by simp; omega
  go_loopw [4] (fun i wr => ∃ (k : Nat) (vb : Value) (l : List BlkP), k ≤ f.blocks.length ∧ i = .int .i64 (k : Nat) ∧ l.map (·.blk) = f.blocks.take k ∧ BlkRow (w.heap.size + 3) 90 wr vb l ∧ wr.heap[w.heap.size + 2]? = some (.cells #[.string f.name, .int .i64 f.regs, .slice aa f.arrays.length ac, vb] 36) ∧ Below W.heap.size W wr) (fun i _ => f.blocks.length - (intOf i).toNat)
  case atStart => exact ⟨0, .slice none 0 0, [], Nat.zero_le _, rfl, rfl, BlkRow.nil, by rw [← hWs]; exact (MapKept.heap_alloc W _).1, (Below.refl _ _).alloc (Nat.le_refl _) _⟩
  case round =>
    clear hWn
    obtain ⟨k, vb, l, hk, rfl, hl, hrow, hout, hB⟩ := hrel
    have hll : l.length = k := by have := congrArg List.length hl; simpa [Nat.min_eq_left hk] using this
    have HLL := Lib.hid hll
    have HL := Lib.hid hl
    have HROW := Lib.hid hrow
    have HOUT := Lib.hid hout
    have HB := Lib.hid hB
    have hBs := hB.size
    have hos := lt_heap hout
    have y3 := (HB.out.cell (p := ⟨w.heap.size, 3, none⟩) (by show w.heap.size < _; omega)).trans HX.out
    have hk0 : (0 : Int) ≤ (k : Int) := by omega
    clear hll hl hrow hout hB
    by_cases hlt : k < f.blocks.length
    · obtain ⟨p, hp⟩ : ∃ p, f.blocks[k]? = some p := ⟨_, List.getElem?_eq_getElem hlt⟩
      have hpc := HCL.out p (List.mem_of_getElem? hp)
      have HP := Lib.hid hp
      have HBR := Lib.hid (HBW.out.trans (HB.out.mono (by omega)))
      rcases HF.out.blocks.at_ with h0 | ⟨b, off, rfl, hc⟩
      · omega
      obtain ⟨ca, cc, hblk, hcode⟩ := hc k p hp
      have HCODE := Lib.hid hcode
      obtain ⟨f0, f1, f2, f3, f4⟩ := hblk.below HBR.out
      have hk1 : (k : Int) < (f.blocks.length : Int) := by omega
      have hb9 : b < wr.heap.size := World.block_lt_of_cell? _ _ f0
      clear hc hp hblk hcode
      obtain ⟨V, hV⟩ : ∃ V : World, wr.alloc (.cells #[.slice ca p.code.length cc, .int .u8 p.kind, .int .i64 p.x, .int .i64 p.to, .int .i64 p.els] 43) = V := ⟨_, rfl⟩
      have hVs : V.heap.size = wr.heap.size + 1 := by rw [← hV]; simp
      have hBV : Below wr.heap.size wr V := by rw [← hV]; exact (Below.refl _ _).alloc (Nat.le_refl _) _
      have HBV := Lib.hid hBV
      have v0 : V.cell? ⟨wr.heap.size, 0, none⟩ = some (.slice ca p.code.length cc) := by rw [← hV]; simp
      have v1 : V.cell? ⟨wr.heap.size, 1, none⟩ = some (.int .u8 p.kind) := by rw [← hV]; simp
      have v2 : V.cell? ⟨wr.heap.size, 2, none⟩ = some (.int .i64 p.x) := by rw [← hV]; simp
      have v3 : V.cell? ⟨wr.heap.size, 3, none⟩ = some (.int .i64 p.to) := by rw [← hV]; simp
      have v4 : V.cell? ⟨wr.heap.size, 4, none⟩ = some (.int .i64 p.els) := by rw [← hV]; simp
      have HV0 := Lib.hid v0
      clear hBV
      go_wp2_with fail
      clear hV v0 v1 v2 v3 v4 f0 f1 f2 f3 f4
      obtain ⟨wo, rfl⟩ : ∃ wo : World, wo = wr := ⟨_, rfl⟩
      have hVn : (V.alloc (.cells #[.slice none 0 0, .int .u8 p.kind, .int .i64 p.x, .int .i64 p.to, .int .i64 p.els] 90)).heap.size = V.heap.size + 1 := by simp
      have hX0 : (V.alloc (.cells #[.slice none 0 0, .int .u8 p.kind, .int .i64 p.x, .int .i64 p.to, .int .i64 p.els] 90)).heap[wo.heap.size + 1]? = some (.cells #[.slice none 0 0, .int .u8 p.kind, .int .i64 p.x, .int .i64 p.to, .int .i64 p.els] 90) := by rw [← hVs]; exact (MapKept.heap_alloc V _).1
      go_loopw [7] (fun i wi => ∃ (m : Nat) (vc : Value), m ≤ p.code.length ∧ i = .int .i64 (m : Nat) ∧ wi.ownsRow (wo.heap.size + 2) 91 6 vc m (codeCells (p.code.take m)) ∧ wi.heap[wo.heap.size + 1]? = some (.cells #[vc, .int .u8 p.kind, .int .i64 p.x, .int .i64 p.to, .int .i64 p.els] 90) ∧ Below V.heap.size V wi) (fun i _ => p.code.length - (intOf i).toNat)
      case atStart => exact ⟨0, .slice none 0 0, Nat.zero_le _, rfl, ⟨rfl, .inl ⟨rfl, rfl⟩⟩, hX0, (Below.refl _ _).alloc (Nat.le_refl _) _⟩
      case round =>
        clear hVn hX0
        obtain ⟨wi, rfl⟩ : ∃ wi : World, wi = wr := ⟨_, rfl⟩
        obtain ⟨m, vc, hm, rfl, hown, hbox, hBI⟩ := hrel
        have hbl9 := lt_heap hbox
        have hBIs := hBI.size
        have HOWN := Lib.hid hown
        have HBOX := Lib.hid hbox
        have HBI := Lib.hid hBI
        have u0 := (HBI.out.cell (p := ⟨wo.heap.size, 0, none⟩) (by show wo.heap.size < _; omega)).trans HV0.out
        have hm0 : (0 : Int) ≤ (m : Int) := by omega
        clear hown hbox hBI
        by_cases hml : m < p.code.length
        · obtain ⟨q, hq⟩ : ∃ q, p.code[m]? = some q := ⟨_, List.getElem?_eq_getElem hml⟩
          have HQ := Lib.hid hq
          have HBA := Lib.hid (HBR.out.trans (HBV.out.trans (HBI.out.mono (by omega)) |>.mono HBR.out.size))
          rcases HCODE.out.at_ with h0 | ⟨cb, co, rfl, hcc⟩
          · omega
          have hI := (hcc m q hq).below HBA.out
          have HS : Hid (∀ w', (∀ j, j < wi.heap.size → j ≠ wo.heap.size + 1 → vc.ownBlock ≠ some j → w'.heap[j]? = wi.heap[j]?) → SP wo.heap.size (some ⟨cb, co, none⟩) p.code.length cc cb (co + m * 6) q w') := fun w' hh => by
            have hvc : ∀ j, vc.ownBlock = some j → wo.heap.size + 2 ≤ j := fun j hj => (ownsRow_lt HOWN.out hj).1
            have hbo : w'.heap[wo.heap.size]? = wi.heap[wo.heap.size]? := hh _ (by omega) (by omega) (fun e => by have := hvc _ e; omega)
            have hcb : cb < wo.heap.size := World.block_lt_of_cell? _ ⟨cb, co + m * 6, none⟩ ((hcc m q hq).below HBR.out).c0
            have hbc : w'.heap[cb]? = wi.heap[cb]? := hh _ (by omega) (by omega) (fun e => by have := hvc _ e; omega)
            have mv : ∀ {o : Nat} {v : Value}, wi.cell? ⟨cb, o, none⟩ = some v → w'.cell? ⟨cb, o, none⟩ = some v := fun h => (World.cell?_of_block (a := ⟨cb, _, none⟩) hbc).trans h
            exact ⟨(World.cell?_of_block (a := ⟨wo.heap.size, 0, none⟩) hbo).trans u0, mv hI.c0, mv hI.c1, mv hI.c2, mv hI.c3, mv hI.c4, mv hI.c5⟩
          have hm1 : (m : Int) < (p.code.length : Int) := by omega
          have r0 : wi.cell? ⟨wo.heap.size + 1, 0, none⟩ = some vc := cell_heap HBOX.out 0
          obtain ⟨i0, hi, hz0, hz1, hz2⟩ := info_parts Tryd.infoRIns
          clear hcc hq hI
          go_wp2_with fail
          refine wp_region_held_drew (S := SP wo.heap.size (some ⟨cb, co, none⟩) p.code.length cc cb (co + m * 6) q) (by kernel_rfl) (HS.out _ (fun _ _ _ _ => rfl)) (fun hHeld => ?_)
          have HBD : Hid (Below wi.heap.size wi wi.drew) := (Below.refl _ _).drew
          have HOD : Hid (wi.drew.ownsRow (wo.heap.size + 2) 91 6 vc m (codeCells (p.code.take m))) := ownsRow_move HOWN.out (fun _ _ _ => rfl)
          generalize hwd : wi.drew = D at hHeld HBD HOD ⊢
          have r0' : D.cell? ⟨wo.heap.size + 1, 0, none⟩ = some vc := by rw [← hwd]; exact r0
          have hDs : D.heap.size = wi.heap.size := by rw [← hwd]; rfl
          clear hwd
          refine wpAnyH_take (i := 0) (v := .pointer (some ⟨wo.heap.size + 1, 0, none⟩)) rfl (by kernel_rfl) (by kernel_rfl) (by kernel_rfl) (fun _ _ _ h => h) (Or.inl ⟨by rfl, ?_⟩) (by assumption) ?_
          · intro w' hSw; go_simp
          (try simp only [Act.put, List.getElem_toArray, List.getElem_cons_zero, List.setIfInBounds_toArray, List.set_cons_zero, List.set_cons_succ])
          refine wpAnyH_take (i := 2) (v := .pointer (some ⟨wo.heap.size, 0, none⟩)) rfl (by kernel_rfl) (by kernel_rfl) (by kernel_rfl) (fun _ _ _ h => h) (Or.inl ⟨by rfl, ?_⟩) (by assumption) ?_
          · intro w' hSw; go_simp
          (try simp only [Act.put, List.getElem_toArray, List.getElem_cons_zero, List.getElem_cons_succ, List.setIfInBounds_toArray, List.set_cons_zero, List.set_cons_succ])
          refine wpAnyH_take (i := 3) (v := .slice (some ⟨cb, co, none⟩) p.code.length cc) rfl (by kernel_rfl) (by kernel_rfl) (by kernel_rfl) (fun _ _ _ h => h) (Or.inl ⟨by rfl, ?_⟩) (by assumption) ?_
          · intro w' hSw; obtain ⟨s1, s2⟩ := hSw; go_simp
          (try simp only [Act.put, List.getElem_toArray, List.getElem_cons_zero, List.getElem_cons_succ, List.setIfInBounds_toArray, List.set_cons_zero, List.set_cons_succ])
          refine wpAnyH_take (i := 4) (v := .int .i64 (m : Int)) rfl (by kernel_rfl) (by kernel_rfl) (by kernel_rfl) (fun _ _ _ h => h) (Or.inl ⟨by rfl, ?_⟩) (by assumption) ?_
          · intro w' hSw; go_simp
          (try simp only [Act.put, List.getElem_toArray, List.getElem_cons_zero, List.getElem_cons_succ, List.setIfInBounds_toArray, List.set_cons_zero, List.set_cons_succ])
          refine wpAnyH_take (i := 5) (v := .pointer (some ⟨cb, co + m * 6, none⟩)) rfl (by kernel_rfl) (by kernel_rfl) (by kernel_rfl) (fun _ _ _ h => h) (Or.inl ⟨by rfl, ?_⟩) (by assumption) ?_
          · intro w' hSw; go_simp
          (try simp only [Act.put, List.getElem_toArray, List.getElem_cons_zero, List.getElem_cons_succ, List.setIfInBounds_toArray, List.set_cons_zero, List.set_cons_succ])
          refine wpAnyH_take (i := 6) (v := .agg #[.int .u8 q.op, .int .i64 q.dst, .int .i64 q.x, .int .i64 q.y, .int .i64 q.imm, .string q.sym]) rfl (by kernel_rfl) (by kernel_rfl) (by kernel_rfl) (fun _ _ _ h => h) (Or.inl ⟨by rfl, ?_⟩) (by assumption) ?_
          · intro w' hSw; obtain ⟨s1, ⟨q0, q1, q2, q3, q4, q5⟩⟩ := hSw; go_simp
          (try simp only [Act.put, List.getElem_toArray, List.getElem_cons_zero, List.getElem_cons_succ, List.setIfInBounds_toArray, List.set_cons_zero, List.set_cons_succ])
          refine wpAnyH_ready (rs := [1, 7]) (by kernel_rfl) (by simp) (AllReadyH.cons rfl (fun K hK => ?_) (AllReadyH.cons rfl (fun K hK => ?_) AllReadyH.nil))
          · go_simp
            refine hK.out _ _ (hHeld) (fun hHeld => ?_)
            clear hK K
            rename_i hOld
            clear hOld
            (try simp only [Act.put, List.getElem_toArray, List.getElem_cons_zero, List.getElem_cons_succ, List.setIfInBounds_toArray, List.set_cons_zero, List.set_cons_succ])
            refine wpAnyH_ready (rs := [7]) (by kernel_rfl) (by simp) (AllReadyH.cons rfl (fun K hK => ?_) AllReadyH.nil)
            go_simp
            have HBA2 := Lib.hid (HBD.out.alloc (by omega) (.cells #[.int .u8 q.op, .int .i64 q.dst, .int .i64 q.x, .int .i64 q.y, .int .i64 q.imm, .string q.sym] 91))
            refine hK.out _ _ (HS.out _ (fun j h1 _ _ => HBA2.out.block j h1)) (fun hHeld => ?_)
            clear hK K
            rename_i hOld
            clear hOld
            (try simp only [Act.put, List.getElem_toArray, List.getElem_cons_zero, List.getElem_cons_succ, List.setIfInBounds_toArray, List.set_cons_zero, List.set_cons_succ])
            refine wpAnyH_ready (rs := [8]) (by kernel_rfl) (by simp) (AllReadyH.cons rfl (fun K hK => ?_) AllReadyH.nil)
            refine step_append_row rfl (.tmp 44) (.tmp 50) 88 rfl (wo.heap.size + 2) 91 i0 _ 6 56 Tryd.underlying88 hi hz0 hz1 hz2 rfl (by decide) vc m (codeCells (p.code.take m)) (by simp [Act.eval]) (HOD.out.alloc _) ⟨D.heap.size, 0, none⟩ 1 1 q.cells (by simp [Act.eval]) rfl (ins_new D q _) q.one (by decide) (by unfold maxLen; omega) (by omega) (by simp; omega) ?_
            intro gb cap w2 hown2 hgrow hplace
            have HBX := Lib.hid (inner_box (by omega) HBOX.out HOWN.out HBA2.out hgrow)
            have q9 : w2.cell? ⟨wo.heap.size + 1, 0, none⟩ = some vc := cell_heap HBX.out 0
            have y9 : w2.frozen? ⟨wo.heap.size + 1, 0, none⟩ = false := frozen_heap HBX.out 0
            have HOLD : Hid (∀ j, j < wi.heap.size → j ≠ wo.heap.size + 1 → vc.ownBlock ≠ some j → w2.heap[j]? = wi.heap[j]?) := fun j h1 h2 h3 => (hgrow.block j (Nat.lt_of_lt_of_le h1 HBA2.out.size) (fun e => h3 e.symm)).trans (HBA2.out.block j h1)
            have HIP := Lib.hid (inner_push (by omega) HBOX.out HBI.out (by omega) HOWN.out HBA2.out hgrow hown2)
            clear hown2 hgrow hplace
            refine hK.out _ _ (HS.out _ HOLD.out) (fun hHeld => ?_)
            clear hK K
            rename_i hOld
            clear hOld
            (try simp only [Act.put, List.getElem_toArray, List.getElem_cons_zero, List.getElem_cons_succ, List.setIfInBounds_toArray, List.set_cons_zero, List.set_cons_succ])
            refine wpAnyH_take (i := 9) (v := .pointer (some ⟨wo.heap.size + 1, 0, none⟩)) rfl (by kernel_rfl) (by kernel_rfl) (by kernel_rfl) (fun _ _ _ h => h) (Or.inl ⟨by rfl, ?_⟩) (by assumption) ?_
            · intro w' hSw; go_simp
            (try simp only [Act.put, List.getElem_toArray, List.getElem_cons_zero, List.getElem_cons_succ, List.setIfInBounds_toArray, List.set_cons_zero, List.set_cons_succ])
            refine wpAnyH_ready (rs := [10]) (by kernel_rfl) (by simp) (AllReadyH.cons rfl (fun K hK => ?_) AllReadyH.nil)
            go_simp
            refine hK.out _ _ (HS.out _ (fun j h1 h2 h3 => ?_)) (fun hHeld => ?_)
            · exact (Below.heap_setCell _ _ _ _ (by exact h2)).trans (HOLD.out j h1 h2 h3)
            · refine wpAnyH_done (by kernel_rfl) ?_ _
              go_wp2_with fail
              go_roundw
              case rel => exact ⟨m + 1, _, by omega, by go_num, by rw [take_snoc HQ.out, codeCells_snoc]; exact HIP.out.1, HIP.out.2.1, HIP.out.2.2⟩
              case measure => simp [intOf]; omega
          · go_simp
            have HBA2 := Lib.hid (HBD.out.alloc (by omega) (.cells #[.int .u8 q.op, .int .i64 q.dst, .int .i64 q.x, .int .i64 q.y, .int .i64 q.imm, .string q.sym] 91))
            have r0a := (HBA2.out.cell (p := ⟨wo.heap.size + 1, 0, none⟩) hbl9).trans r0
            refine hK.out _ _ (HS.out _ (fun j h1 _ _ => HBA2.out.block j h1)) (fun hHeld => ?_)
            clear hK K
            rename_i hOld
            clear hOld
            (try simp only [Act.put, List.getElem_toArray, List.getElem_cons_zero, List.getElem_cons_succ, List.setIfInBounds_toArray, List.set_cons_zero, List.set_cons_succ])
            refine wpAnyH_ready (rs := [1]) (by kernel_rfl) (by simp) (AllReadyH.cons rfl (fun K hK => ?_) AllReadyH.nil)
            go_simp
            refine hK.out _ _ (hHeld) (fun hHeld => ?_)
            clear hK K
            rename_i hOld
            clear hOld
            (try simp only [Act.put, List.getElem_toArray, List.getElem_cons_zero, List.getElem_cons_succ, List.setIfInBounds_toArray, List.set_cons_zero, List.set_cons_succ])
            refine wpAnyH_ready (rs := [8]) (by kernel_rfl) (by simp) (AllReadyH.cons rfl (fun K hK => ?_) AllReadyH.nil)
            refine step_append_row rfl (.tmp 44) (.tmp 50) 88 rfl (wo.heap.size + 2) 91 i0 _ 6 56 Tryd.underlying88 hi hz0 hz1 hz2 rfl (by decide) vc m (codeCells (p.code.take m)) (by simp [Act.eval]) (HOD.out.alloc _) ⟨D.heap.size, 0, none⟩ 1 1 q.cells (by simp [Act.eval]) rfl (ins_new D q _) q.one (by decide) (by unfold maxLen; omega) (by omega) (by simp; omega) ?_
            intro gb cap w2 hown2 hgrow hplace
            have HBX := Lib.hid (inner_box (by omega) HBOX.out HOWN.out HBA2.out hgrow)
            have q9 : w2.cell? ⟨wo.heap.size + 1, 0, none⟩ = some vc := cell_heap HBX.out 0
            have y9 : w2.frozen? ⟨wo.heap.size + 1, 0, none⟩ = false := frozen_heap HBX.out 0
            have HOLD : Hid (∀ j, j < wi.heap.size → j ≠ wo.heap.size + 1 → vc.ownBlock ≠ some j → w2.heap[j]? = wi.heap[j]?) := fun j h1 h2 h3 => (hgrow.block j (Nat.lt_of_lt_of_le h1 HBA2.out.size) (fun e => h3 e.symm)).trans (HBA2.out.block j h1)
            have HIP := Lib.hid (inner_push (by omega) HBOX.out HBI.out (by omega) HOWN.out HBA2.out hgrow hown2)
            clear hown2 hgrow hplace
            refine hK.out _ _ (HS.out _ HOLD.out) (fun hHeld => ?_)
            clear hK K
            rename_i hOld
            clear hOld
            (try simp only [Act.put, List.getElem_toArray, List.getElem_cons_zero, List.getElem_cons_succ, List.setIfInBounds_toArray, List.set_cons_zero, List.set_cons_succ])
            refine wpAnyH_take (i := 9) (v := .pointer (some ⟨wo.heap.size + 1, 0, none⟩)) rfl (by kernel_rfl) (by kernel_rfl) (by kernel_rfl) (fun _ _ _ h => h) (Or.inl ⟨by rfl, ?_⟩) (by assumption) ?_
            · intro w' hSw; go_simp
            (try simp only [Act.put, List.getElem_toArray, List.getElem_cons_zero, List.getElem_cons_succ, List.setIfInBounds_toArray, List.set_cons_zero, List.set_cons_succ])
            refine wpAnyH_ready (rs := [10]) (by kernel_rfl) (by simp) (AllReadyH.cons rfl (fun K hK => ?_) AllReadyH.nil)
            go_simp
            refine hK.out _ _ (HS.out _ (fun j h1 h2 h3 => ?_)) (fun hHeld => ?_)
            · exact (Below.heap_setCell _ _ _ _ (by exact h2)).trans (HOLD.out j h1 h2 h3)
            · refine wpAnyH_done (by kernel_rfl) ?_ _
              go_wp2_with fail
              go_roundw
              case rel => exact ⟨m + 1, _, by omega, by go_num, by rw [take_snoc HQ.out, codeCells_snoc]; exact HIP.out.1, HIP.out.2.1, HIP.out.2.2⟩
              case measure => simp [intOf]; omega
        · obtain rfl : m = p.code.length := by omega
          obtain ⟨na, nc, rfl, hcode', hlies, hle, _⟩ := code_own (T := 91) (l := p.code) (by have := HOWN.out; rw [List.take_length] at this; exact this) (fun i hi => HCODE.out.wf i hi) HCODE.out.fits
          have HCN := Lib.hid hcode'
          have HLN := Lib.hid hlies
          have HBWI := Lib.hid (HBV.out.trans (HBI.out.mono (by omega)))
          have HOUTI : Hid (wi.heap[w.heap.size + 2]? = some (.cells #[.string f.name, .int .i64 f.regs, .slice aa f.arrays.length ac, vb] 36)) := (HBWI.out.block _ hos).trans HOUT.out
          have HRI := Lib.hid (HROW.out.keep HBWI.out)
          have HRW : Hid (wi.ownsRow (w.heap.size + 3) 90 5 vb k (l.flatMap BlkP.cells)) := by show wi.ownsRow _ _ _ _ _ _; rw [← HLL.out]; exact HRI.out.row
          have p3 := cell_heap HOUTI.out 3
          have g0 := cell_heap HBOX.out 0
          have g1 := cell_heap HBOX.out 1
          have g2 := cell_heap HBOX.out 2
          have g3 := cell_heap HBOX.out 3
          have g4 := cell_heap HBOX.out 4
          simp only [List.getElem?_toArray, List.getElem?_cons_zero, List.getElem?_cons_succ] at p3 g0 g1 g2 g3 g4
          obtain ⟨j0, hj, jz0, jz1, jz2⟩ := info_parts Tryd.infoRBlk
          have hw9 : w.heap.size + 2 < wi.heap.size := by omega
          clear hcode' hlies hle
          go_wp2_with (at_builtin; refine wpList_append_row _ rfl (.tmp 54) (.tmp 56) 34 rfl (w.heap.size + 3) 90 j0 _ 5 56 Tryd.underlying34 hj jz0 jz1 jz2 rfl (by decide) vb k (l.flatMap BlkP.cells) rfl (HRW.out.alloc _) ⟨wi.heap.size, 0, none⟩ 1 1 (BlkP.cells ⟨p, na, nc⟩) rfl rfl (blk_new wi ⟨p, na, nc⟩ _) (BlkP.one _) (by decide) (by unfold maxLen; omega) (by omega) (by simp; omega) ?_)
          intro gb cap w2 hown2 hgrow hplace
          have hBA : Below wi.heap.size wi (wi.alloc (.cells #[.slice na p.code.length nc, .int .u8 p.kind, .int .i64 p.x, .int .i64 p.to, .int .i64 p.els] 90)) := (Below.refl _ _).alloc (Nat.le_refl _) _
          have hvb : ∀ j, vb.ownBlock = some j → w.heap.size + 3 ≤ j := fun j hj => (ownsRow_lt HRW.out hj).1
          have HO2 : Hid (w2.heap[w.heap.size + 2]? = some (.cells #[.string f.name, .int .i64 f.regs, .slice aa f.arrays.length ac, vb] 36)) := (hgrow.block _ (by simp; omega) (fun e => by have := hvb _ e.symm; omega)).trans ((hBA.block _ hw9).trans HOUTI.out)
          have q9 : w2.cell? ⟨w.heap.size + 2, 3, none⟩ = some vb := cell_heap HO2.out 3
          have y9 : w2.frozen? ⟨w.heap.size + 2, 3, none⟩ = false := frozen_heap HO2.out 3
          have HP2 : Hid (BlkRow (w.heap.size + 3) 90 w2 (.slice (some ⟨gb, 0, none⟩) (k + 1) cap) (l ++ [⟨p, na, nc⟩])) := by
            have hwf := HF.out.blocks.wf p (List.mem_of_getElem? HP.out)
            have := HROW.out.push (V := wi.alloc (.cells #[.slice na p.code.length nc, .int .u8 p.kind, .int .i64 p.x, .int .i64 p.to, .int .i64 p.els] 90)) (p := ⟨p, na, nc⟩) (by omega) (HBWI.out.trans (hBA.mono HBWI.out.size)) hwf (HCN.out.below hBA) (HLN.out.mono (by omega) hBA.size) hgrow (by rw [HLL.out]; exact hown2) (by simpa using hplace)
            rw [HLL.out] at this
            exact this
          have HB2 : Hid (Below W.heap.size W w2) := ((HB.out.trans (HBWI.out.mono hBs)).trans (hBA.mono (by omega))).grown hgrow (by simp; omega) (fun j hj => by have := hvb j hj; omega)
          clear hown2 hgrow hplace hBA hvb g0 g1 g2 g3 g4 p3
          go_wp2_with fail
          go_roundw
          case rel => exact ⟨k + 1, _, l ++ [⟨p, na, nc⟩], by omega, by go_num, by rw [List.map_append, HL.out, take_snoc HP.out]; rfl, HP2.out.move (by simp) (fun j h1 _ => Below.heap_setCell _ _ _ _ (by show j ≠ w.heap.size + 2; omega)), by rw [setCell_heap HO2.out]; simp, HB2.out.setCell (by show W.heap.size ≤ w.heap.size + 2; omega) _⟩
          case measure => simp [intOf]; omega
    · obtain rfl : k = f.blocks.length := by omega
      skip
      have HZR : Hid (wr.heap[w.heap.size + 1]? = some (.cells #[.string ⟨#[]⟩, .int .i64 0, .slice none 0 0, .slice none 0 0] 36)) := (HB.out.block _ (by omega)).trans HZ.out
      have p0 := cell_heap HOUT.out 0
      have p1 := cell_heap HOUT.out 1
      have p2 := cell_heap HOUT.out 2
      have p3 := cell_heap HOUT.out 3
      have q0 := cell_heap HZR.out 0
      have q1 := cell_heap HZR.out 1
      have q2 := cell_heap HZR.out 2
      have q3 := cell_heap HZR.out 3
      have z := frozen_heap HZR.out
      simp only [List.getElem?_toArray, List.getElem?_cons_zero, List.getElem?_cons_succ] at p0 p1 p2 p3 q0 q1 q2 q3
      obtain ⟨na, nc, rfl, hbs, hnl, hlies, _⟩ := HROW.out.blks (by have := HLL.out; omega)
      have HBS := Lib.hid hbs
      have HLI := Lib.hid hlies
      have hlen := HLL.out
      rw [hlen] at p3
      clear hbs hlies hlen
      go_wp2_with fail
      have HS4 := Lib.hid (four_set (v0 := .string f.name) (v1 := .int .i64 f.regs) (v2 := .slice aa f.arrays.length ac) (v3 := .slice na f.blocks.length nc) HZR.out)
      have HB4 := Lib.hid (four_below (v0 := .string f.name) (v1 := .int .i64 f.regs) (v2 := .slice aa f.arrays.length ac) (v3 := .slice na f.blocks.length nc) (b := w.heap.size + 1) (HBW.out.trans (HB.out.mono (by omega))) (Nat.le_succ _))
      have HR4 := Lib.hid (HROW.out.move (w' := ((((wr.setCell ⟨w.heap.size + 1, 0, none⟩ (.string f.name)).setCell ⟨w.heap.size + 1, 1, none⟩ (.int .i64 f.regs)).setCell ⟨w.heap.size + 1, 2, none⟩ (.slice aa f.arrays.length ac)).setCell ⟨w.heap.size + 1, 3, none⟩ (.slice na f.blocks.length nc))) (by simp) (fun k h1 h2 => four_other (by omega)))
      generalize World.setCell _ _ _ = X at HS4 HB4 HR4 ⊢
      have e0 := cell_heap HS4.out 0
      have e1 := cell_heap HS4.out 1
      have e2 := cell_heap HS4.out 2
      have e3 := cell_heap HS4.out 3
      simp only [List.getElem?_toArray, List.getElem?_cons_zero, List.getElem?_cons_succ] at e0 e1 e2 e3
      obtain ⟨na', nc', he, hbs', _, _, _⟩ := HR4.out.blks (by have := HLL.out; omega)
      injection he with he1 he2 he3
      subst he1 he3
      rw [HL.out, List.take_length] at hbs'
      exact bodyPost_ret (v := fnVal f.name f.regs aa f.arrays.length ac na f.blocks.length nc) (by simp [results, Tryd.results13, go_sem, e0, e1, e2, e3]) rfl ⟨na, nc, rfl, ⟨HF.out.arrays.below HB4.out, hbs', HF.out.regs, HF.out.name⟩, HB4.out⟩
end
end Go.Proofs.YteknhnnlhhgppaaDoor
