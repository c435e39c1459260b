/-
  Contracts of CheckUnlocked's closures (package ontimelaw15).
-/
import Derived.Test.YtnegdmhmhdojbaaDoorChkUnlockP
import Derived.Test.YtnegdmhmhdojbaaDoorChkHas
import Derived.Test.YtnegdmhmhdojbaaDoorApps
import Derived.Test.YtnegdmhmhdojbaaDoorChkPlains
namespace Go.Proofs.YtnegdmhmhdojbaaDoor
set_option linter.unusedVariables false
set_option linter.unusedSimpArgs false
open Go.RowKit
set_option maxRecDepth 100000
set_option maxHeartbeats 8000000

abbrev zeroN : Obj := .cells #[.int .u8 0, .int .i64 0, .string ⟨#[]⟩, .slice none 0 0] 43
/-- the name of a declaration is that name -/
theorem sameName_any (name : ByteArray) (nb : Nat) (x : Arr) (w : World) (hn : w.heap[nb]? = some (.cells #[.string name] 9)) :
    Calls Tryd.prog 35 #[.agg #[.string x.name, .int .i64 x.len], .pointer (some ⟨nb, 0, none⟩)] w fun e w' => e = .returned (.bool (decide (x.name = name))) ∧ Below w.heap.size w w' := by
  have c0 := mem_cell hn 0
  simp only [List.getElem?_toArray, List.getElem?_cons_zero] at c0
  have hlt := mem_lt hn
  clear hn
  go_enter Tryd.func35, Tryd.ntmps35
  by_cases h2 : x.name = name
  · have hb2 : (x.name.toList == name.toList) = true := by simp [h2]
    have HE : Hid (decide (x.name = name) = true) := decide_eq_true h2
    clear h2
    go_wp2_with fail
    go_ret
    exact ⟨by rw [HE.out]; rfl, mem_alloc _ _⟩
  · have hb2 : (x.name.toList == name.toList) = false := by
      rw [beq_eq_false_iff_ne]
      exact fun h => h2 (ByteArray.ext (Array.toList_inj.1 (by rw [ByteArray.toList_eq, ByteArray.toList_eq] at h; exact h)))
    have HE : Hid (decide (x.name = name) = false) := decide_eq_false h2
    clear h2
    go_wp2_with fail
    go_ret
    exact ⟨by rw [HE.out]; rfl, mem_alloc _ _⟩
theorem any_mem (l : List Arr) (name : ByteArray) : l.any (fun x => decide (x.name = name)) = memB (l.map (·.name)) name := by
  unfold memB
  rw [List.any_map]
  rfl
/-- a name is that of an array of the task -/
theorem private_any (name : ByteArray) (t : Tsk) (q : TskPlace) (tb : Nat) (w : World) (ht : w.heap[tb]? = some (tskObj t q)) (hi : TskIn w t q) :
    Calls Tryd.prog 34 #[.string name, .pointer (some ⟨tb, 0, none⟩)] w fun e w' => e = .returned (.bool (memB (t.arrays.map (·.name)) name)) ∧ Below w.heap.size w w' := by
  obtain ⟨A1, hA1⟩ : ∃ A1 : World, w.alloc (.cells #[.string name] 9) = A1 := ⟨_, rfl⟩
  have hB1 : Below w.heap.size w A1 := by rw [← hA1]; exact mem_alloc _ _
  have HX1 : Hid (A1.heap[w.heap.size]? = some (.cells #[.string name] 9)) := by show _ = _; rw [← hA1]; exact mem_new _ _
  have ht1 := mem_keep ht hB1
  have c3 := mem_cell ht1 3
  simp only [Tsk.cells, List.getElem?_toArray, List.getElem?_cons_zero, List.getElem?_cons_succ] at c3
  have HI := Lib.hid (hi.below hB1)
  have HB1 := Lib.hid hB1
  clear ht ht1 hi hB1
  go_enter Tryd.func34, Tryd.ntmps34
  go_wp2_with fail
  clear hA1
  refine (has_any (fun x => decide (x.name = name)) 35 #[.pointer (some ⟨w.heap.size, 0, none⟩)] (enters_of Tryd.func35 (by kernel_rfl) rfl) t.arrays A1 q.aa q.ac HI.out.arrays (fun x W' hb => sameName_any name w.heap.size x W' (mem_keep HX1.out hb))).mono ?_
  rintro e w1 ⟨rfl, hB2⟩
  have HB2 : Hid (Below w.heap.size w w1) := HB1.out.trans (hB2.mono HB1.out.size)
  rw [any_mem]
  clear hB2
  go_wp2_with fail
  go_ret
  exact ⟨rfl, HB2.out⟩
/-- an access to a shared object -/
theorem isShr_any (t : Tsk) (q : TskPlace) (tb pb : Nat) (x : Tree) (w : World) (a : Option Addr) (c : Nat) (hx : Rep w x a) (ht : w.heap[tb]? = some (tskObj t q)) (hi : TskIn w t q) (hp : w.heap[pb]? = some (.cells #[.func (.func 34) #[] #[.pointer (some ⟨tb, 0, none⟩)]] 65)) :
    Calls Tryd.prog 36 #[x.val a c, .pointer (some ⟨pb, 0, none⟩)] w fun e w' => e = .returned (.bool (isShrF (t.arrays.map (·.name)) x)) ∧ Below w.heap.size w w' := by
  obtain ⟨A1, hA1⟩ : ∃ A1 : World, w.alloc (boxObj x a c) = A1 := ⟨_, rfl⟩
  have hB1 : Below w.heap.size w A1 := by rw [← hA1]; exact mem_alloc _ _
  have hX1 : A1.heap[w.heap.size]? = some (boxObj x a c) := by rw [← hA1]; exact mem_new _ _
  obtain ⟨⟨f0, f1, f2, f3⟩, _⟩ := blk4 hX1
  have p0 := mem_cell (mem_keep hp hB1) 0
  simp only [List.getElem?_toArray, List.getElem?_cons_zero] at p0
  have HT := Lib.hid (mem_keep ht hB1)
  have HI := Lib.hid (hi.below hB1)
  have HB1 := Lib.hid hB1
  have hfit := hx.fits
  clear ht hi hB1 hX1 hp hx
  go_enter Tryd.func36, Tryd.ntmps36
  by_cases h1 : x.kind = 3
  · have hb1 : (x.kind == 3) = true := by simp [h1]
    have HE : Hid (isShrF (t.arrays.map (·.name)) x = !memB (t.arrays.map (·.name)) x.name) := by show _ = _; unfold isShrF; simp [h1]
    clear h1
    go_wp2_with fail
    clear hA1 f0 f1 f2 f3
    refine (private_any x.name t q tb A1 HT.out HI.out).mono ?_
    rintro e w1 ⟨rfl, hB2⟩
    have HB2 : Hid (Below w.heap.size w w1) := HB1.out.trans (hB2.mono HB1.out.size)
    obtain ⟨m, hm⟩ : ∃ m, memB (t.arrays.map (·.name)) x.name = m := ⟨_, rfl⟩
    rw [hm] at HE ⊢
    clear hB2 hm
    go_wp2_with fail
    go_ret
    exact ⟨by rw [HE.out]; rfl, HB2.out⟩
  · have hb1 : (x.kind == 3) = false := by simpa using h1
    have HE : Hid (isShrF (t.arrays.map (·.name)) x = false) := by show _ = _; unfold isShrF; simp [h1]
    clear h1
    go_wp2_with fail
    go_ret
    exact ⟨by rw [HE.out]; rfl, HB1.out⟩
theorem numT_fits : numT.Fits := ⟨by decide, by decide, by decide, by decide⟩
theorem emptyB_fits : emptyB.Fits := ⟨by decide, by decide, by decide, by decide⟩
theorem make_fits (k : Int) (hk : 0 ≤ k ∧ k ≤ 255) (s : ByteArray) (hs : s.size ≤ 9223372036854775807) (l : Nat) (hl : l ≤ 9223372036854775807) (f : Nat → Tree) : (Tree.make k 0 s l f).Fits :=
  ⟨hk, by show (-9223372036854775808 : Int) ≤ 0 ∧ (0 : Int) ≤ 9223372036854775807; decide, hs, hl⟩
/-- a Lock statement becomes an If statement -/
theorem unlock1_any (x : Tree) (S : Nat → Prop) (w : World) (a : Option Addr) (c : Nat) (hq : lockQ x) (hr : RepIn S w x a) :
    Calls Tryd.prog 32 (#[x.val a c] ++ #[]) w fun e w' => ∃ a' c', e = .returned ((unlockN x).val a' c') ∧ RepIn (fun k => S k ∨ w.heap.size ≤ k) w' (unlockN x) a' ∧ Below w.heap.size w w' := by
  rw [show (#[x.val a c] ++ #[] : Array Value) = #[x.val a c] from rfl]
  obtain ⟨A1, hA1⟩ : ∃ A1 : World, w.alloc (boxObj x a c) = A1 := ⟨_, rfl⟩
  have hB1 : Below w.heap.size w A1 := by rw [← hA1]; exact mem_alloc _ _
  have hX1 : A1.heap[w.heap.size]? = some (boxObj x a c) := by rw [← hA1]; exact mem_new _ _
  have hs1 : A1.heap.size = w.heap.size + 1 := by rw [← hA1]; simp
  have HS1 := Lib.hid hs1
  obtain ⟨⟨f0, f1, f2, f3⟩, _⟩ := blk4 hX1
  have hlt1 : w.heap.size < A1.heap.size := by omega
  obtain ⟨A2, hA2⟩ : ∃ A2 : World, A2 = A1.alloc zeroN := ⟨_, rfl⟩
  have hB2 : Below A1.heap.size A1 A2 := by rw [hA2]; exact mem_alloc _ _
  have hX2 : A2.heap[A1.heap.size]? = some zeroN := by rw [hA2]; exact mem_new _ _
  have HA2 := Lib.hid hA2
  have HX12 := Lib.hid (mem_keep hX1 hB2)
  have HX2 := Lib.hid hX2
  have HB := Lib.hid (mem_then hB1 hB2)
  have HBA := Lib.hid hB2
  have HR := Lib.hid hr
  have HQ := Lib.hid hq
  have hfit := hr.fits
  clear hs1 hB1 hX1 hA2 hB2 hX2 hr hq
  go_enter Tryd.func32, Tryd.ntmps32
  by_cases h1 : x.kind = 46
  · have hb1 : (x.kind != 46) = false := by simp [h1]
    have hl : 0 < x.len := HQ.out h1
    have h46 := Lib.hid h1
    have hl2 : (0 : Int) < (x.len : Int) := by omega
    obtain ⟨kb, ko, rfl, hSk, hk⟩ := (HR.out.kids).resolve_left (by omega)
    obtain ⟨a1, c1, hn, hr1⟩ := hk 0 hl
    have HN : Hid (NodeAt w kb ko (x.kid 0) a1 c1) := by
      show NodeAt _ _ _ _ _ _
      have := hn
      rwa [Nat.zero_mul, Nat.add_zero] at this
    have HR1 := Lib.hid hr1
    have HSK := Lib.hid hSk
    have HE : Hid (unlockN x = Tree.make 41 0 ⟨#[]⟩ 3 (fun i => if i = 0 then numT else if i = 1 then x.kid 0 else emptyB)) := if_pos h1
    clear hn hr1 hSk hk h1
    have HCN : Hid (∀ w', Below A1.heap.size A2 w' → w'.heap[w.heap.size]? = some (boxObj x (some ⟨kb, ko, none⟩) c) ∧ NodeAt w' kb ko (x.kid 0) a1 c1) := fun w' h => by
      have h2 : Below w.heap.size w w' := HB.out.trans (h.mono (by omega))
      exact ⟨(h.block _ hlt1).trans HX12.out, HN.out.below h2 HN.out.lt⟩
    go_wp2_with fail
    rw [← HA2.out]
    clear hA1 f0 f1 f2 f3
    refine wp_region_held_drew (S := fun w' => Below A1.heap.size A2 w') (by kernel_rfl) ((Below.refl _ _).drew) (fun hHeld => ?_)
    have HB0 : Hid (Below A2.heap.size A2 (World.drew _)) := (Below.refl _ _).drew
    generalize hwd : World.drew _ = v0 at hHeld HB0 ⊢
    clear hwd
    refine wpAnyH_take (i := 0) (v := .agg #[.int .u8 1, .int .i64 1, .string ⟨#[]⟩, .slice none 0 0]) rfl (by kernel_rfl) (by kernel_rfl) (by kernel_rfl) (fun _ _ _ h => h) (Or.inl ⟨by rfl, ?_⟩) (by assumption) ?_
    · intro w' hSw; go_simp
    (try simp only [Act.put, List.getElem_toArray, List.getElem_cons_zero, List.setIfInBounds_toArray, List.set_cons_zero, List.set_cons_succ])
    refine wpAnyH_take (i := 1) (v := .pointer (some ⟨w.heap.size, 3, none⟩)) rfl (by kernel_rfl) (by kernel_rfl) (by kernel_rfl) (fun _ _ _ h => h) (Or.inl ⟨by rfl, ?_⟩) (by assumption) ?_
    · intro w' hSw; go_simp
    (try simp only [Act.put, List.getElem_toArray, List.getElem_cons_zero, List.getElem_cons_succ, List.setIfInBounds_toArray, List.set_cons_zero, List.set_cons_succ])
    refine wpAnyH_take (i := 2) (v := .slice (some ⟨kb, ko, none⟩) x.len c) rfl (by kernel_rfl) (by kernel_rfl) (by kernel_rfl) (fun _ _ _ h => h) (Or.inl ⟨by rfl, ?_⟩) (by assumption) ?_
    · intro w' hSw; have z3 := mem_cell (HCN.out _ hSw).1 3; simp only [List.getElem?_toArray, List.getElem?_cons_zero, List.getElem?_cons_succ] at z3; go_simp
    (try simp only [Act.put, List.getElem_toArray, List.getElem_cons_zero, List.getElem_cons_succ, List.setIfInBounds_toArray, List.set_cons_zero, List.set_cons_succ])
    refine wpAnyH_take (i := 3) (v := .pointer (some ⟨kb, ko, none⟩)) rfl (by kernel_rfl) (by kernel_rfl) (by kernel_rfl) (fun _ _ _ h => h) (Or.inl ⟨by rfl, ?_⟩) (by assumption) ?_
    · intro w' hSw; go_simp
    (try simp only [Act.put, List.getElem_toArray, List.getElem_cons_zero, List.getElem_cons_succ, List.setIfInBounds_toArray, List.set_cons_zero, List.set_cons_succ])
    refine wpAnyH_take (i := 4) (v := .agg #[.int .u8 (x.kid 0).kind, .int .i64 (x.kid 0).num, .string (x.kid 0).name, .slice a1 (x.kid 0).len c1]) rfl (by kernel_rfl) (by kernel_rfl) (by kernel_rfl) (fun _ _ _ h => h) (Or.inl ⟨by rfl, ?_⟩) (by assumption) ?_
    · intro w' hSw; obtain ⟨_, z0, z1, z2, z3⟩ := HCN.out _ hSw; go_simp
    (try simp only [Act.put, List.getElem_toArray, List.getElem_cons_zero, List.getElem_cons_succ, List.setIfInBounds_toArray, List.set_cons_zero, List.set_cons_succ])
    refine wpAnyH_ready (rs := [5]) (by kernel_rfl) (by simp) (AllReadyH.cons rfl (fun K hK => ?_) AllReadyH.nil)
    go_simp
    refine (block_any v0 none 0 0).mono ?_
    rintro e w5 ⟨rfl, hB5⟩
    have HB5 : Hid (Below A2.heap.size A2 w5) := mem_then HB0.out hB5
    clear hB5
    refine hK.out _ _ (HB5.out.mono HBA.out.size) (fun hHeld => ?_)
    clear hK K
    rename_i hOld
    clear hOld
    (try simp only [Act.put, List.getElem_toArray, List.getElem_cons_zero, List.getElem_cons_succ, List.setIfInBounds_toArray, List.set_cons_zero, List.set_cons_succ])
    refine wpAnyH_ready (rs := [6]) (by kernel_rfl) (by simp) (AllReadyH.cons rfl (fun K hK => ?_) AllReadyH.nil)
    go_simp
    obtain ⟨w6, hw6⟩ : ∃ w6 : World, w6 = w5.alloc (.cells #[.int .u8 1, .int .i64 1, .string ⟨#[]⟩, .slice none 0 0, .int .u8 (x.kid 0).kind, .int .i64 (x.kid 0).num, .string (x.kid 0).name, .slice a1 (x.kid 0).len c1, .int .u8 47, .int .i64 0, .string ⟨#[]⟩, .slice none 0 0] 43) := ⟨_, rfl⟩
    rw [← hw6]
    have hX6 : w6.heap[w5.heap.size]? = some (.cells #[.int .u8 1, .int .i64 1, .string ⟨#[]⟩, .slice none 0 0, .int .u8 (x.kid 0).kind, .int .i64 (x.kid 0).num, .string (x.kid 0).name, .slice a1 (x.kid 0).len c1, .int .u8 47, .int .i64 0, .string ⟨#[]⟩, .slice none 0 0] 43) := by rw [hw6]; exact mem_new _ _
    have HB6 : Hid (Below A2.heap.size A2 w6) := mem_then HB5.out (by rw [hw6]; exact mem_alloc _ _)
    have HX6 := Lib.hid hX6
    clear hw6 hX6
    refine hK.out _ _ (HB6.out.mono HBA.out.size) (fun hHeld => ?_)
    clear hK K
    rename_i hOld
    clear hOld
    (try simp only [Act.put, List.getElem_toArray, List.getElem_cons_zero, List.getElem_cons_succ, List.setIfInBounds_toArray, List.set_cons_zero, List.set_cons_succ])
    refine wpAnyH_take (i := 7) (v := .agg #[.int .u8 41, .int .i64 0, .string ⟨#[]⟩, .slice (some ⟨w5.heap.size, 0, none⟩) 3 3]) rfl (by kernel_rfl) (by kernel_rfl) (by kernel_rfl) (fun _ _ _ h => h) (Or.inl ⟨by rfl, ?_⟩) (by assumption) ?_
    · intro w' hSw; go_simp
    (try simp only [Act.put, List.getElem_toArray, List.getElem_cons_zero, List.getElem_cons_succ, List.setIfInBounds_toArray, List.set_cons_zero, List.set_cons_succ])
    have HZ6 : Hid (w6.heap[A1.heap.size]? = some zeroN) := mem_keep HX2.out HB6.out
    obtain ⟨⟨z0, z1, z2, z3⟩, q0, q1, q2, q3⟩ := blk4 HZ6.out
    refine wpAnyH_ready (rs := [8]) (by kernel_rfl) (by simp) (AllReadyH.cons rfl (fun K hK => ?_) AllReadyH.nil)
    go_simp
    have HBE : Hid (Below A1.heap.size A2 (set4 w6 A1.heap.size (.int .u8 41) (.int .i64 0) (.string ⟨#[]⟩) (.slice (some ⟨w5.heap.size, 0, none⟩) 3 3))) := set4_below (HB6.out.mono HBA.out.size) (Nat.le_refl _)
    refine hK.out _ _ (HBE.out) (fun hHeld => ?_)
    clear hK K
    rename_i hOld
    clear hOld
    (try simp only [Act.put, List.getElem_toArray, List.getElem_cons_zero, List.getElem_cons_succ, List.setIfInBounds_toArray, List.set_cons_zero, List.set_cons_succ])
    refine wpAnyH_done (by kernel_rfl) ?_ _
    clear hHeld
    go_wp2_with fail
    refine bodyPost_ret (v := .agg #[.int .u8 41, .int .i64 0, .string ⟨#[]⟩, .slice (some ⟨w5.heap.size, 0, none⟩) 3 3]) (by simp [results, Tryd.results32, go_sem, z0, z1, z2, z3]) rfl ?_
    have hBW : Below w.heap.size w (set4 w6 A1.heap.size (.int .u8 41) (.int .i64 0) (.string ⟨#[]⟩) (.slice (some ⟨w5.heap.size, 0, none⟩) 3 3)) := HB.out.trans (HBE.out.mono (by omega))
    refine ⟨some ⟨w5.heap.size, 0, none⟩, 3, by rw [HE.out]; rfl, ?_, hBW⟩
    rw [HE.out]
    have h5 : A2.heap.size ≤ w5.heap.size := HB5.out.size
    have hA : A1.heap.size < A2.heap.size := mem_lt HX2.out
    have hX : (set4 w6 A1.heap.size (.int .u8 41) (.int .i64 0) (.string ⟨#[]⟩) (.slice (some ⟨w5.heap.size, 0, none⟩) 3 3)).heap[w5.heap.size]? = _ := (set4_other (by omega)).trans HX6.out
    refine RepIn.mk (make_fits 41 (by decide) _ (by decide) _ (by decide) _) (.inr ⟨w5.heap.size, 0, rfl, .inr (by omega), fun i hi => ?_⟩)
    have hi3 : i < 3 := hi
    rw [Tree.make_kid hi3]
    match i, hi3 with
    | 0, _ => exact ⟨none, 0, ⟨mem_cell hX 0, mem_cell hX 1, mem_cell hX 2, mem_cell hX 3⟩, RepIn.mk numT_fits (.inl rfl)⟩
    | 1, _ => exact ⟨a1, c1, ⟨mem_cell hX 4, mem_cell hX 5, mem_cell hX 6, mem_cell hX 7⟩, HR1.out.move (fun k _ hl => hBW.block k hl) (fun k hk _ => .inl hk)⟩
    | 2, _ => exact ⟨none, 0, ⟨mem_cell hX 8, mem_cell hX 9, mem_cell hX 10, mem_cell hX 11⟩, RepIn.mk emptyB_fits (.inl rfl)⟩
  · have hb1 : (x.kind != 46) = true := by simpa using h1
    have HE : Hid (unlockN x = x) := if_neg h1
    clear h1
    go_wp2_with fail
    refine bodyPost_ret (v := x.val a c) (by simp [results, Tryd.results32, go_sem]) rfl ?_
    have hBE : Below w.heap.size w (A1.alloc (boxObj x a c)) := by rw [← hA1]; exact mem_then (mem_alloc _ _) (mem_alloc _ _)
    refine ⟨a, c, by rw [HE.out], ?_, hBE⟩
    rw [HE.out]
    exact HR.out.move (fun k _ hl => hBE.block k hl) (fun k hk _ => .inl hk)
end Go.Proofs.YtnegdmhmhdojbaaDoor
