/-
  Contract: Leaves (package ontimeref19): paths are followed.
-/
import Derived.Test.YteknhnnlhhgppaaDoorLiveReach
import Derived.Test.YteknhnnlhhgppaaDoorLivePre
import Derived.Deep.RegionHeld
import Derived.OrdersHeld
import Derived.Deep.RegionLaw
namespace Go.Proofs.YteknhnnlhhgppaaDoor
set_option linter.unusedVariables false
set_option linter.unusedSimpArgs false
open Go.RowKit
set_option maxRecDepth 100000
set_option maxHeartbeats 16000000

/-- register r is live at the end of block k -/
def LeavesP (f : Fn) (r k : Nat) : Prop := ∃ b, f.blocks[k]? = some b ∧ ∃ t ∈ b.succ, LiveIn f r t.toNat
/-- the search on its way -/
structure BfsI (f : Fn) (r k : Nat) (seen : List Bool) (todo : List Int) : Prop where
  len : seen.length = f.blocks.length
  tin : ∀ t ∈ todo, 0 ≤ t ∧ t < (f.blocks.length : Int)
  start : ∀ b, f.blocks[k]? = some b → ∀ s ∈ b.succ, seen.getD s.toNat false = true ∨ s ∈ todo
  proc : ∀ u b, f.blocks[u]? = some b → seen.getD u false = true → (blkB b 0 0).testBit r = false ∧ ((blkB b 0 (2 ^ r)).testBit r = true → ∀ s ∈ b.succ, seen.getD s.toNat false = true ∨ s ∈ todo)
  reach : ∀ t ∈ todo, LiveIn f r t.toNat → LeavesP f r k
def bfsM (seen : List Bool) (todo : List Int) : Nat := 3 * (seen.map (fun b => if b then 0 else 1)).sum + todo.length
theorem BfsI.begin {f : Fn} {R r k : Nat} {b : Blk} (hF : FormR f R) (hb : f.blocks[k]? = some b) : BfsI f r k (List.replicate f.blocks.length false) b.succ := by
  have hz : ∀ u, (List.replicate f.blocks.length false).getD u false = false := fun u => by
    rw [List.getD_eq_getElem?_getD, List.getElem?_replicate]
    split <;> rfl
  exact ⟨by simp, fun t ht => (hF.blk b (List.mem_of_getElem? hb)).succ t ht, fun c hc s hs => (by rw [hb] at hc; obtain rfl := Option.some.inj hc; exact .inr hs), fun u c _ h => (by rw [hz] at h; cases h), fun t ht h => ⟨b, hb, t, ht, h⟩⟩
/-- nothing is left: it does not leave -/
theorem BfsI.done {f : Fn} {r k : Nat} {seen : List Bool} (h : BfsI f r k seen []) : ¬ LeavesP f r k := by
  rintro ⟨b, hb, t, ht, hl⟩
  have key : ∀ u, LiveIn f r u → seen.getD u false = true → False := by
    intro u hu
    induction hu with
    | use hc hj =>
      intro hs
      rw [(h.proc _ _ hc hs).1] at hj
      cases hj
    | pass hc hj ht _ ih =>
      intro hs
      rcases (h.proc _ _ hc hs).2 hj _ ht with h9 | h9
      · exact ih h9
      · simp at h9
  rcases h.start b hb t ht with h9 | h9
  · exact key _ hl h9
  · simp at h9
theorem BfsI.skip {f : Fn} {r k : Nat} {x : Int} {seen : List Bool} {todo : List Int} (h : BfsI f r k seen (x :: todo)) (hs : seen.getD x.toNat false = true) : BfsI f r k seen todo := by
  have mv : ∀ s : Int, seen.getD s.toNat false = true ∨ s ∈ x :: todo → seen.getD s.toNat false = true ∨ s ∈ todo := fun s h9 => by
    rcases h9 with h9 | h9
    · exact .inl h9
    · rcases List.mem_cons.1 h9 with rfl | h9
      · exact .inl hs
      · exact .inr h9
  exact ⟨h.len, fun t ht => h.tin t (List.mem_cons_of_mem _ ht), fun b hb s hs' => mv s (h.start b hb s hs'), fun u b hb hu => ⟨(h.proc u b hb hu).1, fun hj s hs' => mv s ((h.proc u b hb hu).2 hj s hs')⟩, fun t ht => h.reach t (List.mem_cons_of_mem _ ht)⟩
/-- a block is seen, without a use; en: its end is reached -/
theorem BfsI.see {f : Fn} {R r k : Nat} {x : Int} {b : Blk} {en : Bool} {seen : List Bool} {todo : List Int} (h : BfsI f r k seen (x :: todo)) (hF : FormR f R) (hr : r < R) (hb : f.blocks[x.toNat]? = some b) (hok : ReachOk R b 0 r false en) :
    BfsI f r k (seen.set x.toNat true) (if en then todo ++ b.succ else todo) := by
  have hx := h.tin x (List.mem_cons_self ..)
  have hget : ∀ u, (seen.set x.toNat true).getD u false = if u = x.toNat then true else seen.getD u false := fun u => by
    rw [getD_set]
    by_cases e : u = x.toNat
    · rw [if_pos ⟨e, by rw [h.len]; omega⟩, if_pos e]
    · rw [if_neg (fun e' => e e'.1), if_neg e]
  have hsub : ∀ s, s ∈ todo → s ∈ (if en then todo ++ b.succ else todo) := fun s hs => by split <;> simp [hs]
  have mv : ∀ s : Int, 0 ≤ s → seen.getD s.toNat false = true ∨ s ∈ x :: todo → (seen.set x.toNat true).getD s.toNat false = true ∨ s ∈ (if en then todo ++ b.succ else todo) := fun s _ h9 => by
    rw [hget]
    rcases h9 with h9 | h9
    · refine .inl ?_
      by_cases e : s.toNat = x.toNat
      · rw [if_pos e]
      · rw [if_neg e]; exact h9
    · rcases List.mem_cons.1 h9 with rfl | h9
      · exact .inl (by rw [if_pos rfl])
      · exact .inr (hsub s h9)
  have h2r : 2 ^ r < 2 ^ R := Nat.pow_lt_pow_right (by omega) hr
  have e0 := hok.2 0 (Nat.two_pow_pos R)
  have e1 := hok.2 (2 ^ r) h2r
  simp only [Nat.zero_testBit, Bool.and_false, Bool.or_false, Bool.false_or] at e0
  have hself : (2 ^ r : Nat).testBit r = true := two_bit.2 rfl
  simp only [hself, Bool.and_true, Bool.false_or] at e1
  refine ⟨by rw [List.length_set]; exact h.len, fun t ht => ?_, fun c hc s hs => mv s ((hF.blk c (List.mem_of_getElem? hc)).succ s hs).1 (h.start c hc s hs), fun u c hc hu => ?_, fun t ht hl => ?_⟩
  · split at ht
    · rcases List.mem_append.1 ht with ht | ht
      · exact h.tin t (List.mem_cons_of_mem _ ht)
      · exact (hF.blk b (List.mem_of_getElem? hb)).succ t ht
    · exact h.tin t (List.mem_cons_of_mem _ ht)
  · rw [hget] at hu
    by_cases e : u = x.toNat
    · subst e
      rw [hb] at hc
      obtain rfl := Option.some.inj hc
      refine ⟨e0, fun hj s hs => .inr ?_⟩
      rw [e1] at hj
      rw [if_pos hj]
      exact List.mem_append_right _ hs
    · rw [if_neg e] at hu
      exact ⟨(h.proc u c hc hu).1, fun hj s hs => mv s ((hF.blk c (List.mem_of_getElem? hc)).succ s hs).1 ((h.proc u c hc hu).2 hj s hs)⟩
  · split at ht
    · rename_i hen
      rcases List.mem_append.1 ht with ht | ht
      · exact h.reach t (List.mem_cons_of_mem _ ht) hl
      · refine h.reach x (List.mem_cons_self ..) (.pass hb ?_ ht hl)
        rw [e1]
        exact hen
    · exact h.reach t (List.mem_cons_of_mem _ ht) hl
theorem BfsI.found {f : Fn} {R r k : Nat} {x : Int} {b : Blk} {en : Bool} {seen : List Bool} {todo : List Int} (h : BfsI f r k seen (x :: todo)) (hb : f.blocks[x.toNat]? = some b) (hok : ReachOk R b 0 r true en) : LeavesP f r k := by
  refine h.reach x (List.mem_cons_self ..) (.use hb ?_)
  rw [hok.2 0 (Nat.two_pow_pos R)]
  rfl
theorem bfsM_skip {x : Int} {seen : List Bool} {todo : List Int} : bfsM seen todo < bfsM seen (x :: todo) := by unfold bfsM; simp
theorem bfsM_see {x : Int} {b : Blk} {en : Bool} {seen : List Bool} {todo : List Int} (hs : seen[x.toNat]? = some false) : bfsM (seen.set x.toNat true) (if en then todo ++ b.succ else todo) < bfsM seen (x :: todo) := by
  unfold bfsM
  have e : ((seen.set x.toNat true).map (fun b : Bool => if b then 0 else 1)) = (seen.map (fun b : Bool => if b then 0 else 1)).set x.toNat 0 := by rw [List.map_set]; rfl
  have hlt := sum_set_lt (l := seen.map (fun b : Bool => if b then 0 else 1)) (i := x.toNat) (x := 0) (y := 1) (by rw [List.getElem?_map, hs]; rfl) (by omega)
  rw [e]
  have h2 : (if en then todo ++ b.succ else todo).length ≤ todo.length + 2 := by
    have := succ_two b
    split
    · rw [List.length_append]; omega
    · omega
  rw [List.length_cons]
  omega
theorem bfsM_start {n : Nat} {b : Blk} : bfsM (List.replicate n false) b.succ ≤ 3 * n + 2 := by
  unfold bfsM
  have := succ_two b
  have e : ((List.replicate n false).map (fun b : Bool => if b then 0 else 1)).sum = n := by simp
  omega
structure BfsW where
  seen : List Bool
  todo : List Int
def BfsG (f : Fn) (r k B sg n : Nat) (W : World) (tv : Value) (w : World) (g : BfsW) : Prop :=
  BfsI f r k g.seen g.todo ∧ w.ownsRow B 4 1 (.slice (some ⟨sg, 0, none⟩) n n) n (g.seen.map Value.bool) ∧ IntsAt w tv g.todo ∧ (∃ a c, tv = .slice a g.todo.length c ∧ g.todo.length ≤ c) ∧ Below B W w ∧ bfsM g.seen g.todo ≤ 3 * n + 2
theorem bool_cell {w : World} {B g n j : Nat} {bs : List Bool} {v : Value} (h : w.ownsRow B 4 1 (.slice (some ⟨g, 0, none⟩) n n) n (bs.map Value.bool)) (hc : w.cell? ⟨g, j, none⟩ = some v) : ∃ b, v = .bool b := by
  obtain ⟨_, h2⟩ := h
  rcases h2 with ⟨h2, _⟩ | ⟨g', cap, cur, hv, _, hh, hc1, _, hs, hx⟩
  · injection h2 with h3; cases h3
  · injection hv with h3 _ h5
    injection h3 with h3
    injection h3 with h3
    subst h3 h5
    rw [cell_heap hh j] at hc
    have e : cur.toList = bs.map Value.bool := by
      rw [List.take_of_length_le (by rw [Array.length_toList]; omega)] at hx
      exact hx
    have hm : v ∈ bs.map Value.bool := by
      rw [← e]
      exact List.mem_of_getElem? (by rw [Array.getElem?_toList]; exact hc)
    obtain ⟨b, _, rfl⟩ := List.mem_map.1 hm
    exact ⟨b, rfl⟩
theorem leaves_any (f : Fn) (aa ba : Option Addr) (ac bc R k r : Nat) (b : Blk) (w : World) (hf : FnAt w f aa ba) (hn : f.blocks.length ≤ 1000) (hb : f.blocks[k]? = some b) (hcl : ∀ b ∈ f.blocks, b.code.length ≤ 1000000) (hF : FormR f R) (hr : r < R) :
    Calls Tryd.prog 49 #[fnVal f.name f.regs aa f.arrays.length ac ba f.blocks.length bc, .int .i64 (k : Int), .int .i64 (r : Int)] w (Tells (LeavesP f r k) w) := by
  have HF := Lib.hid hf
  have HB := Lib.hid hb
  have HCL := Lib.hid hcl
  have HFR := Lib.hid hF
  have HRR := Lib.hid hr
  have HN1 := Lib.hid hn
  obtain ⟨n, hnn⟩ : ∃ n, f.blocks.length = n := ⟨_, rfl⟩
  have HN := Lib.hid hnn
  have hkn : k < n := by have := (List.getElem?_eq_some_iff.1 hb).1; omega
  obtain ⟨W, hW⟩ : ∃ W : World, w.alloc (.cells #[.string f.name, .int .i64 f.regs, .slice aa f.arrays.length ac, .slice ba n bc] 36) = W := ⟨_, rfl⟩
  have hWs : W.heap.size = w.heap.size + 1 := by rw [← hW]; simp
  have HWS := Lib.hid hWs
  have HBW : Hid (Below w.heap.size w W) := by show Below _ _ _; rw [← hW]; exact (Below.refl _ _).alloc (Nat.le_refl _) _
  have HX : Hid (W.heap[w.heap.size]? = some (.cells #[.string f.name, .int .i64 f.regs, .slice aa f.arrays.length ac, .slice ba n bc] 36)) := by
    show _ = _
    rw [← hW]
    exact (MapKept.heap_alloc w _).1
  obtain ⟨W2, hW2⟩ : ∃ W2 : World, W.alloc (.cells (Array.replicate n (Value.bool false)) 4) = W2 := ⟨_, rfl⟩
  have HB2 : Hid (Below W.heap.size W W2) := by show Below _ _ _; rw [← hW2]; exact (Below.refl _ _).alloc (Nat.le_refl _) _
  have HSE : Hid (W2.ownsRow W.heap.size 4 1 (.slice (some ⟨W.heap.size, 0, none⟩) n n) n ((List.replicate n false).map Value.bool)) := by
    show World.ownsRow _ _ _ _ _ _ _
    rw [← hW2]
    have h1 := World.ownsRow_lit (base := W.heap.size) (e := 4) (size := 1) W (Array.replicate n (Value.bool false)) n (Nat.le_refl _) (by unfold maxLen; omega) (by simp)
    simpa using h1
  rcases hf.blocks.at_ with hz | ⟨bb, off, rfl, hk⟩
  · omega
  have HXC : Hid (∀ w', Below W.heap.size W w' → (w'.cell? ⟨w.heap.size, 0, none⟩ = some (.string f.name) ∧ w'.cell? ⟨w.heap.size, 1, none⟩ = some (.int .i64 f.regs) ∧ w'.cell? ⟨w.heap.size, 2, none⟩ = some (.slice aa f.arrays.length ac) ∧ w'.cell? ⟨w.heap.size, 3, none⟩ = some (.slice (some ⟨bb, off, none⟩) n bc)) ∧ FnAt w' f aa (some ⟨bb, off, none⟩) ∧ Below w.heap.size w w') := fun w' h => by
    have h9 := (h.block _ (show w.heap.size < W.heap.size by omega)).trans HX.out
    have h7 := HBW.out.trans (h.mono HBW.out.size)
    exact ⟨⟨cell_heap h9 0, cell_heap h9 1, cell_heap h9 2, cell_heap h9 3⟩, HF.out.below h7, h7⟩
  have HBK : Hid (∀ w', Below W.heap.size W w' → ∀ (u : Nat) (c : Blk), f.blocks[u]? = some c → ∃ ca cc, BlkAt w' bb (off + u * 5) c ca cc) := fun w' h u c hc => by
    obtain ⟨ca, cc, hba, _⟩ := hk u c hc
    exact ⟨ca, cc, hba.below (HBW.out.trans (h.mono HBW.out.size))⟩
  have QR : Hid (∀ (u : Nat) (c : Blk), f.blocks[u]? = some c → ∀ w', FnAt w' f aa (some ⟨bb, off, none⟩) → Calls Tryd.prog 79 #[.agg #[.string f.name, .int .i64 f.regs, .slice aa f.arrays.length ac, .slice (some ⟨bb, off, none⟩) n bc], .int .i64 (u : Int), .int .i64 0, .int .i64 (r : Int)] w' (ReachEnd R c 0 r w')) := fun u c hc w' hw => by
    have h9 := reaches_any f aa (some ⟨bb, off, none⟩) ac bc R u 0 r c w' hw HN1.out hc (HCL.out c (List.mem_of_getElem? hc)) (Nat.zero_le _) HFR.out HRR.out
    rw [HN.out] at h9
    exact h9
  have hm2 := make_bools n (by omega)
  obtain ⟨⟨x0, x1, x2, x3⟩, hfn, _⟩ := HXC.out W (Below.refl _ _)
  obtain ⟨⟨y0, y1, y2, y3⟩, _, _⟩ := HXC.out W2 HB2.out
  obtain ⟨ca, cc, ⟨c0, c1, c2, c3, c4⟩⟩ := HBK.out W2 HB2.out k b hb
  have hk0 : (0 : Int) ≤ (k : Int) := by omega
  have hk1 : (k : Int) < (n : Int) := by omega
  have hn0 : (0 : Int) ≤ (n : Int) := by omega
  rw [hnn]
  rw [hnn] at hn
  clear hf hb hcl hF hr hk hnn hWs hfn
  go_enter Tryd.func49, Tryd.ntmps49
  go_wp2_with fail
  clear hW hW2 x0 x1 x2 x3 y0 y1 y2 y3 c0 c1 c2 c3 c4 hm2
  refine (refSucc_any b ca cc _).mono ?_
  rintro e w1 ⟨sv, rfl, hS, hB1⟩
  have HG0 : Hid (BfsG f r k W.heap.size W.heap.size n W sv w1 ⟨List.replicate n false, b.succ⟩) := by
    refine ⟨?_, ownsRow_below HSE.out hB1, hS.at_, ?_, below_step HB2.out hB1, bfsM_start⟩
    rotate_left
    · rcases hS with ⟨h1, h2⟩ | ⟨_, _, cap, h2, _, h3, _⟩
      · exact ⟨none, 0, by rw [h2, h1]; rfl, by rw [h1]; exact Nat.le_refl _⟩
      · exact ⟨_, cap, h2, h3⟩
    have := BfsI.begin (r := r) HFR.out HB.out
    rwa [HN.out] at this
  obtain ⟨sa, sc, rfl, _⟩ := hS.at_
  clear hS hB1
  go_wp2_with fail
  go_loopw [8] (fun tv wr => ∃ g, BfsG f r k W.heap.size W.heap.size n W tv wr g) (fun tv wr => leastM (BfsG f r k W.heap.size W.heap.size n W tv wr) (fun g => bfsM g.seen g.todo))
  case atStart => exact ⟨_, HG0.out⟩
  case round =>
    obtain ⟨⟨seen, todo⟩, hg, hmin⟩ := leastM_at (M := fun g : BfsW => bfsM g.seen g.todo) hrel
    obtain ⟨hbi, hso, hti, hcp, hbel, hbm⟩ := hg
    simp only at hbi hso hti hcp hbm hmin
    have HBI := Lib.hid hbi
    have HSO := Lib.hid hso
    have HBEL := Lib.hid hbel
    have HBM := Lib.hid hbm
    have HTI := Lib.hid hti
    obtain ⟨ta, tc, rfl, hta⟩ := hti
    have hcap : todo.length ≤ tc := by
      obtain ⟨_, c9, e9, h9⟩ := hcp
      injection e9 with _ _ e9
      omega
    have HTA := Lib.hid hta
    have HMIN := Lib.hid hmin
    obtain ⟨⟨x0, x1, x2, x3⟩, hfn, hbf⟩ := HXC.out wr hbel
    have HFN := Lib.hid hfn
    have HBF := Lib.hid hbf
    clear hbi hso hbel hbm hta hmin hrel hfn hbf hcp
    cases todo with
    | nil =>
      simp only [List.length_nil]
      have HNO := Lib.hid HBI.out.done
      go_wp2_with fail
      go_ret
      exact ⟨false, rfl, ⟨fun h => by simp at h, fun h => absurd h HNO.out⟩, HBF.out⟩
    | cons x todo =>
      obtain ⟨hx0, hx1⟩ := HBI.out.tin x (List.mem_cons_self ..)
      obtain ⟨u, rfl⟩ : ∃ u : Nat, x = (u : Int) := ⟨x.toNat, by omega⟩
      have hun : u < n := by have := HN.out; omega
      have hu0 : (0 : Int) ≤ (u : Int) := by omega
      have hu1 : (u : Int) < (n : Int) := by omega
      rcases HTA.out with h0 | ⟨tb, tof, rfl, htb, htc⟩
      · simp at h0
      have hcell : wr.cell? ⟨tb, tof, none⟩ = some (.int .i64 (u : Int)) := htc 0 (u : Int) rfl
      obtain ⟨na, hna⟩ : ∃ na : Option Addr, (if tc = 1 then some (⟨tb, tof, none⟩ : Addr) else some ⟨tb, tof + 1, none⟩) = na := ⟨_, rfl⟩
      rw [List.length_cons] at hcap
      have HTL : Hid (IntsAt wr (.slice na todo.length (tc - 1)) todo) := by
        by_cases h1 : tc = 1
        · exact ⟨_, _, rfl, .inl (by omega)⟩
        · rw [if_neg h1] at hna
          refine ⟨_, _, rfl, .inr ⟨tb, tof + 1, hna.symm, htb, fun i y hy => ?_⟩⟩
          have := htc (i + 1) y (by simpa using hy)
          rwa [show tof + (i + 1) = tof + 1 + i by omega] at this
      have HCP : Hid (todo.length ≤ tc - 1) := by show _ ≤ _; omega
      have hlow : (1 : Int) ≤ (tc : Int) := by omega
      have hlown : 1 ≤ tc := by omega
      obtain ⟨sb, hsb⟩ : ∃ sb, seen[u]? = some sb := ⟨_, List.getElem?_eq_getElem (by rw [HBI.out.len, HN.out]; exact hun)⟩
      have HSB := Lib.hid hsb
      have hsc : wr.cell? ⟨W.heap.size, u, none⟩ = some (.bool sb) := own_cell HSO.out (by rw [List.getElem?_map, hsb]; rfl)
      have hsf : wr.frozen? ⟨W.heap.size, u, none⟩ = false := row_free HSO.out u
      have htl : todo.length ≤ 3010 := by have := HBM.out; unfold bfsM at this; rw [List.length_cons] at this; omega
      obtain ⟨tl, htl2⟩ : ∃ tl, todo.length = tl := ⟨_, rfl⟩
      have HTLN := Lib.hid htl2
      simp only [List.length_cons]
      rw [htl2] at htl HTL HCP hcap ⊢
      have hmn : Hid (bfsM seen ((u : Int) :: todo) = leastM (BfsG f r k W.heap.size W.heap.size n W (.slice (some ⟨tb, tof, none⟩) (tl + 1) tc) wr) (fun g => bfsM g.seen g.todo)) := by
        have h9 := HMIN.out
        simp only [List.length_cons, htl2] at h9
        exact h9
      clear htb htc hsb htl2 HMIN
      cases sb with
      | true =>
        have HBS : Hid (BfsI f r k seen todo) := HBI.out.skip (by rw [Int.toNat_natCast, List.getD_eq_getElem?_getD, HSB.out]; rfl)
        have HMS : Hid (bfsM seen todo < bfsM seen ((u : Int) :: todo)) := bfsM_skip
        go_wp2_with fail
        have HGS : BfsG f r k W.heap.size W.heap.size n W (.slice na tl (tc - 1)) wr ⟨seen, todo⟩ := ⟨HBS.out, HSO.out, HTL.out, ⟨_, _, by rw [HTLN.out], by rw [HTLN.out]; exact HCP.out⟩, HBEL.out, Nat.le_of_lt (Nat.lt_of_lt_of_le HMS.out HBM.out)⟩
        refine ⟨⟨_, HGS⟩, ?_⟩
        rw [← hmn.out]
        exact Nat.lt_of_le_of_lt (leastM_le (M := fun g : BfsW => bfsM g.seen g.todo) HGS) HMS.out
      | false =>
        obtain ⟨X1, hX1⟩ : ∃ X1 : World, wr.setCell ⟨W.heap.size, u, none⟩ (.bool true) = X1 := ⟨_, rfl⟩
        have HS1 : Hid (X1.ownsRow W.heap.size 4 1 (.slice (some ⟨W.heap.size, 0, none⟩) n n) n ((seen.set u true).map Value.bool)) := by
          show World.ownsRow _ _ _ _ _ _ _
          rw [← hX1, List.map_set]
          exact ownsRow_set HSO.out (by omega)
        have HB1 : Hid (Below W.heap.size W X1) := by show Below _ _ _; rw [← hX1]; exact HBEL.out.setCell (Nat.le_refl _) _
        have HT1 : Hid (IntsAt X1 (.slice na tl (tc - 1)) todo) := by
          obtain ⟨_, _, e9, h9⟩ := HTL.out
          rw [HTLN.out] at e9
          injection e9 with e9 _ e8
          subst e9 e8
          refine ⟨_, _, by rw [HTLN.out], ?_⟩
          rcases h9 with h9 | ⟨b9, o9, e9, hb9, hc9⟩
          · exact .inl h9
          · refine .inr ⟨b9, o9, e9, by rw [← hX1]; simp only [World.setCell, Array.size_modify]; exact hb9, fun i y hy => ?_⟩
            by_cases hbw : b9 = W.heap.size
            · have h5 := hc9 i y hy
              rw [hbw] at h5
              obtain ⟨_, h6⟩ := bool_cell HSO.out h5
              cases h6
            · rw [World.cell?_of_block (a := ⟨b9, o9 + i, none⟩) (show X1.heap[b9]? = wr.heap[b9]? by rw [← hX1]; exact Below.heap_setCell _ _ _ _ hbw)]
              exact hc9 i y hy
        obtain ⟨c, hc⟩ : ∃ c, f.blocks[u]? = some c := ⟨_, List.getElem?_eq_getElem (by rw [HN.out]; exact hun)⟩
        have HC := Lib.hid hc
        obtain ⟨⟨y0, y1, y2, y3⟩, hfn, hbf⟩ := HXC.out X1 HB1.out
        have HFN1 := Lib.hid hfn
        clear hfn hbf hc
        go_wp2_with fail
        clear hX1 hcell hsc hsf x0 x1 x2 x3 y0 y1 y2 y3
        refine (QR.out u c HC.out _ HFN1.out).mono ?_
        rintro e w2 ⟨us, en, rfl, hok, hB2⟩
        have HOK := Lib.hid hok
        have HBX2 : Hid (Below W.heap.size W w2) := below_step HB1.out hB2
        have HS2 := Lib.hid (ownsRow_below HS1.out hB2)
        have HT2 := Lib.hid (HT1.out.below hB2)
        have HBF2 : Hid (Below w.heap.size w w2) := HBW.out.trans (HBX2.out.mono HBW.out.size)
        clear hok hB2
        cases us with
        | true =>
          have HY : Hid (LeavesP f r k) := HBI.out.found (b := c) (by rw [Int.toNat_natCast]; exact HC.out) HOK.out
          go_wp2_with fail
          go_ret
          exact ⟨true, rfl, ⟨fun _ => HY.out, fun _ => rfl⟩, HBF2.out⟩
        | false =>
          have HBS := Lib.hid (HBI.out.see HFR.out HRR.out (by rw [Int.toNat_natCast]; exact HC.out) HOK.out)
          have HMS : Hid (bfsM (seen.set u true) (if en then todo ++ c.succ else todo) < bfsM seen ((u : Int) :: todo)) := by
            have := bfsM_see (x := (u : Int)) (b := c) (en := en) (seen := seen) (todo := todo) (by rw [Int.toNat_natCast]; exact HSB.out)
            rwa [Int.toNat_natCast] at this
          rw [Int.toNat_natCast] at HBS
          cases en with
          | false =>
            go_wp2_with fail
            have HGS : BfsG f r k W.heap.size W.heap.size n W (.slice na tl (tc - 1)) w2 ⟨seen.set u true, todo⟩ := ⟨HBS.out, HS2.out, HT2.out, ⟨_, _, by show _ = _; rw [HTLN.out], by show todo.length ≤ _; rw [HTLN.out]; exact HCP.out⟩, HBX2.out, Nat.le_of_lt (Nat.lt_of_lt_of_le HMS.out HBM.out)⟩
            refine ⟨⟨_, HGS⟩, ?_⟩
            rw [← hmn.out]
            exact Nat.lt_of_le_of_lt (leastM_le (M := fun g : BfsW => bfsM g.seen g.todo) HGS) HMS.out
          | true =>
            have HBS2 : Hid (BfsI f r k (seen.set u true) (todo ++ c.succ)) := HBS.out
            have HMS2 : Hid (bfsM (seen.set u true) (todo ++ c.succ) < bfsM seen ((u : Int) :: todo)) := HMS.out
            obtain ⟨ca2, cc2, hba2⟩ := HBK.out w2 HBX2.out u c HC.out
            have HBA2 := Lib.hid hba2
            obtain ⟨i0, hi, hz0, hz1, hz2⟩ := info_parts Tryd.infoInt
            have S0 : Hid (∀ w', Below w2.heap.size w2 w' → w'.cell? ⟨w.heap.size, 3, none⟩ = some (.slice (some ⟨bb, off, none⟩) n bc) ∧ BlkAt w' bb (off + u * 5) c ca2 cc2) := fun w' h =>
              ⟨((HXC.out w' (below_step HBX2.out h)).1).2.2.2, HBA2.out.below h⟩
            have hcs := succ_two c
            clear hba2 HBS HMS
            go_wp2_with fail
            refine wp_region_held_drew (S := Below w2.heap.size w2) (by kernel_rfl) (Below.refl _ _).drew (fun hHeld => ?_)
            have HBD : Hid (Below w2.heap.size w2 w2.drew) := (Below.refl _ _).drew
            generalize hwd : w2.drew = D at hHeld HBD ⊢
            clear hwd
            refine wpAnyH_take (i := 1) (v := .slice na tl (tc - 1)) rfl (by kernel_rfl) (by kernel_rfl) (by kernel_rfl) (fun _ _ _ h => h) (Or.inl ⟨by rfl, ?_⟩) (by assumption) ?_
            · intro w' hSw; go_simp
            (try simp only [Act.put, List.getElem_toArray, List.getElem_cons_zero, List.getElem_cons_succ, List.setIfInBounds_toArray, List.set_cons_zero, List.set_cons_succ])
            refine wpAnyH_take (i := 3) (v := .pointer (some ⟨w.heap.size, 3, none⟩)) rfl (by kernel_rfl) (by kernel_rfl) (by kernel_rfl) (fun _ _ _ h => h) (Or.inl ⟨by rfl, ?_⟩) (by assumption) ?_
            · intro w' hSw; go_simp
            (try simp only [Act.put, List.getElem_toArray, List.getElem_cons_zero, List.getElem_cons_succ, List.setIfInBounds_toArray, List.set_cons_zero, List.set_cons_succ])
            refine wpAnyH_take (i := 4) (v := .slice (some ⟨bb, off, none⟩) n bc) rfl (by kernel_rfl) (by kernel_rfl) (by kernel_rfl) (fun _ _ _ h => h) (Or.inl ⟨by rfl, ?_⟩) (by assumption) ?_
            · intro w' hSw; have q0 := (S0.out _ hSw).1; clear hSw; go_simp
            (try simp only [Act.put, List.getElem_toArray, List.getElem_cons_zero, List.getElem_cons_succ, List.setIfInBounds_toArray, List.set_cons_zero, List.set_cons_succ])
            refine wpAnyH_take (i := 5) (v := .int .i64 (u : Int)) rfl (by kernel_rfl) (by kernel_rfl) (by kernel_rfl) (fun _ _ _ h => h) (Or.inl ⟨by rfl, ?_⟩) (by assumption) ?_
            · intro w' hSw; go_simp
            (try simp only [Act.put, List.getElem_toArray, List.getElem_cons_zero, List.getElem_cons_succ, List.setIfInBounds_toArray, List.set_cons_zero, List.set_cons_succ])
            refine wpAnyH_take (i := 6) (v := .pointer (some ⟨bb, off + u * 5, none⟩)) rfl (by kernel_rfl) (by kernel_rfl) (by kernel_rfl) (fun _ _ _ h => h) (Or.inl ⟨by rfl, ?_⟩) (by assumption) ?_
            · intro w' hSw; go_simp
            (try simp only [Act.put, List.getElem_toArray, List.getElem_cons_zero, List.getElem_cons_succ, List.setIfInBounds_toArray, List.set_cons_zero, List.set_cons_succ])
            refine wpAnyH_take (i := 7) (v := .agg #[.slice ca2 c.code.length cc2, .int .u8 c.kind, .int .i64 c.x, .int .i64 c.to, .int .i64 c.els]) rfl (by kernel_rfl) (by kernel_rfl) (by kernel_rfl) (fun _ _ _ h => h) (Or.inl ⟨by rfl, ?_⟩) (by assumption) ?_
            · intro w' hSw; obtain ⟨q0, q1, q2, q3, q4⟩ := (S0.out _ hSw).2; clear hSw; go_simp
            (try simp only [Act.put, List.getElem_toArray, List.getElem_cons_zero, List.getElem_cons_succ, List.setIfInBounds_toArray, List.set_cons_zero, List.set_cons_succ])
            refine wpAnyH_ready (rs := [0]) (by kernel_rfl) (by simp) (AllReadyH.cons rfl (fun K hK => ?_) AllReadyH.nil)
            go_simp
            have HBV : Hid (Below w2.heap.size w2 (D.alloc (.cells #[] 3))) := HBD.out.alloc HBD.out.size _
            have HVS : Hid ((D.alloc (.cells #[] 3)).heap.size = D.heap.size + 1) := by show _ = _; simp
            have HMADE : Hid ((D.alloc (.cells #[] 3)).ownsRow D.heap.size 3 1 (.slice (some ⟨D.heap.size, 0, none⟩) 0 0) 0 []) := World.ownsRow_made D #[] 0 (Nat.le_refl _) (by unfold maxLen; omega) rfl
            have HSRC : Hid (Src (D.alloc (.cells #[] 3)) na tl 1 (todo.map (Value.int .i64))) := by
              refine ⟨by rw [List.length_map, HTLN.out, Nat.mul_one], ?_⟩
              obtain ⟨_, _, e9, h9⟩ := HT2.out.below HBV.out
              injection e9 with e9 _ _
              subst e9
              rcases h9 with h9 | ⟨b9, o9, rfl, _, hc9⟩
              · exact .inl (by rw [← HTLN.out]; exact h9)
              · refine .inr ⟨_, rfl, fun j v hv => ?_⟩
                rw [List.getElem?_map] at hv
                obtain ⟨y, hy, rfl⟩ := Option.map_eq_some_iff.1 hv
                rw [own_addr_add]
                exact hc9 j y hy
            refine hK.out _ _ (HBV.out) (fun hHeld => ?_)
            clear hK K
            rename_i hOld
            clear hOld
            (try simp only [Act.put, List.getElem_toArray, List.getElem_cons_zero, List.getElem_cons_succ, List.setIfInBounds_toArray, List.set_cons_zero, List.set_cons_succ])
            refine wpAnyH_ready (rs := [2]) (by kernel_rfl) (by simp) (AllReadyH.cons rfl (fun K hK => ?_) AllReadyH.nil)
            refine step_append_src _ rfl (.tmp 46) (.tmp 47) 39 rfl D.heap.size 3 i0 _ 1 8 Tryd.underlying39 hi hz0 hz1 hz2 rfl (by decide) (.slice (some ⟨D.heap.size, 0, none⟩) 0 0) 0 [] (by simp [Act.eval]) HMADE.out na tl (tc - 1) (todo.map (Value.int .i64)) (by simp [Act.eval]) HSRC.out (by intro z hz; obtain ⟨y, _, rfl⟩ := List.mem_map.1 hz; rfl) (by unfold maxLen; omega) (by omega) (by have := HVS.out; omega) ?_
            intro v3 w3 hn3 hg3 _
            have HR3 : Hid (IntRow D.heap.size w3 v3 todo) := by
              show World.ownsRow _ _ _ _ _ _ _
              have h9 := hn3
              rw [Nat.zero_add, List.nil_append, ← HTLN.out] at h9
              exact h9
            have HB3 : Hid (Below w2.heap.size w2 w3) := HBV.out.grown hg3 HBV.out.size (fun z hz => by cases hz; exact HBD.out.size)
            have HD3 : Hid (D.heap.size ≤ w3.heap.size) := Nat.le_trans (by have := HVS.out; omega) hg3.size
            obtain ⟨va, vc, rfl⟩ := HR3.out.val
            clear hn3 hg3
            refine hK.out _ _ (HB3.out) (fun hHeld => ?_)
            clear hK K
            rename_i hOld
            clear hOld
            (try simp only [Act.put, List.getElem_toArray, List.getElem_cons_zero, List.getElem_cons_succ, List.setIfInBounds_toArray, List.set_cons_zero, List.set_cons_succ])
            refine wpAnyH_ready (rs := [8]) (by kernel_rfl) (by simp) (AllReadyH.cons rfl (fun K hK => ?_) AllReadyH.nil)
            go_simp
            refine (refSucc_any c ca2 cc2 _).mono ?_
            rintro e w4 ⟨sv4, rfl, hS4, hB4⟩
            have HR4 := Lib.hid (HR3.out.keep hB4)
            have HB4 : Hid (Below w2.heap.size w2 w4) := HB3.out.trans (hB4.mono HB3.out.size)
            have HD4 : Hid (D.heap.size ≤ w4.heap.size) := Nat.le_trans HD3.out hB4.size
            obtain ⟨sa4, sc4, rfl, hsl4⟩ := hS4.at_
            have HSRC4 : Hid (Src w4 sa4 c.succ.length 1 (c.succ.map (Value.int .i64))) := by
              refine ⟨by simp, ?_⟩
              rcases hsl4 with h9 | ⟨b9, o9, rfl, _, hc9⟩
              · exact .inl h9
              · refine .inr ⟨_, rfl, fun j v hv => ?_⟩
                rw [List.getElem?_map] at hv
                obtain ⟨y, hy, rfl⟩ := Option.map_eq_some_iff.1 hv
                rw [own_addr_add]
                exact hc9 j y hy
            clear hS4 hB4 hsl4
            refine hK.out _ _ (HB4.out) (fun hHeld => ?_)
            clear hK K
            rename_i hOld
            clear hOld
            (try simp only [Act.put, List.getElem_toArray, List.getElem_cons_zero, List.getElem_cons_succ, List.setIfInBounds_toArray, List.set_cons_zero, List.set_cons_succ])
            refine wpAnyH_ready (rs := [9]) (by kernel_rfl) (by simp) (AllReadyH.cons rfl (fun K hK => ?_) AllReadyH.nil)
            refine step_append_src _ rfl (.tmp 48) (.tmp 54) 39 rfl D.heap.size 3 i0 _ 1 8 Tryd.underlying39 hi hz0 hz1 hz2 rfl (by decide) (.slice va todo.length vc) todo.length (todo.map (Value.int .i64)) (by simp [Act.eval]) HR4.out sa4 c.succ.length sc4 (c.succ.map (Value.int .i64)) (by simp [Act.eval]) HSRC4.out (by intro z hz; obtain ⟨y, _, rfl⟩ := List.mem_map.1 hz; rfl) (by have := HTLN.out; unfold maxLen; omega) (by have := HTLN.out; omega) HD4.out ?_
            intro v5 w5 hn5 hg5 _
            have HR5 : Hid (IntRow D.heap.size w5 v5 (todo ++ c.succ)) := by
              show World.ownsRow _ _ _ _ _ _ _
              rw [List.length_append, List.map_append]
              exact hn5
            have HB5 : Hid (Below w2.heap.size w2 w5) := HB4.out.grown hg5 HB4.out.size (fun z hz => Nat.le_trans HBD.out.size (HR4.out.own hz).1)
            have hcap5 : ∃ a c9, v5 = .slice a (todo ++ c.succ).length c9 ∧ (todo ++ c.succ).length ≤ c9 := by
              rcases HR5.out.2 with ⟨h1, h2⟩ | ⟨g9, cap9, cur9, h1, _, _, h2, _⟩
              · exact ⟨none, 0, by rw [h1, h2], by omega⟩
              · exact ⟨_, _, h1, h2⟩
            have HCAP5 := Lib.hid hcap5
            have HS5 := Lib.hid (ownsRow_below HS2.out HB5.out)
            have HBX5 : Hid (Below W.heap.size W w5) := below_step HBX2.out HB5.out
            obtain ⟨va5, vc5, rfl⟩ := HR5.out.val
            clear hn5 hg5 hcap5
            refine hK.out _ _ (HB5.out) (fun hHeld => ?_)
            clear hK K
            rename_i hOld
            clear hOld
            (try simp only [Act.put, List.getElem_toArray, List.getElem_cons_zero, List.getElem_cons_succ, List.setIfInBounds_toArray, List.set_cons_zero, List.set_cons_succ])
            refine wpAnyH_ready (rs := [10]) (by kernel_rfl) (by simp) (AllReadyH.cons rfl (fun K hK => ?_) AllReadyH.nil)
            go_simp
            refine hK.out _ _ (HB5.out) (fun hHeld => ?_)
            clear hK K
            rename_i hOld
            clear hOld
            (try simp only [Act.put, List.getElem_toArray, List.getElem_cons_zero, List.getElem_cons_succ, List.setIfInBounds_toArray, List.set_cons_zero, List.set_cons_succ])
            refine wpAnyH_done (by kernel_rfl) ?_ _
            go_wp2_with fail
            have HGS : BfsG f r k W.heap.size W.heap.size n W (.slice va5 (todo ++ c.succ).length vc5) w5 ⟨seen.set u true, todo ++ c.succ⟩ := ⟨HBS2.out, HS5.out, HR5.out.at_, HCAP5.out, HBX5.out, Nat.le_of_lt (Nat.lt_of_lt_of_le HMS2.out HBM.out)⟩
            rw [show (todo ++ c.succ).length = todo.length + c.succ.length from List.length_append] at HGS
            refine ⟨⟨_, HGS⟩, ?_⟩
            rw [← hmn.out]
            exact Nat.lt_of_le_of_lt (leastM_le (M := fun g : BfsW => bfsM g.seen g.todo) HGS) HMS2.out
end Go.Proofs.YteknhnnlhhgppaaDoor
