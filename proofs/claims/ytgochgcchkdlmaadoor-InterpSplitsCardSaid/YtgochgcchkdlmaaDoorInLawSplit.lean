/-
  The law InterpSplits (package ontimelaw16).
-/
import Derived.Test.YtgochgcchkdlmaaDoorInBody
import Derived.Test.YtgochgcchkdlmaaDoorInPlains
import Derived.Test.YtgochgcchkdlmaaDoorInTwo
import Derived.Test.YtgochgcchkdlmaaDoorChkPlains
import Derived.Deep.DeepCutAuto
namespace Go.Proofs.YtgochgcchkdlmaaDoor
set_option linter.unusedVariables false
set_option linter.unusedSimpArgs false
open Go.RowKit Go.Maps
set_option maxRecDepth 100000
set_option maxHeartbeats 80000000

/-! ### the law, plainly -/
theorem split_job {p : Prg} {task : Int} {M : Mem} {inp : List Int} {k : Nat} {truth : Bool} (h : runP p task M = true) (hk : k ≤ (p.tasks.getD task.toNat Tsk.none).body.len) (h47 : (p.tasks.getD task.toNat Tsk.none).body.kind = 47)
    (hq : okP (bodyP p task.toNat (splitT (p.tasks.getD task.toNat Tsk.none).body k truth)) = true) :
    let R := jobP p task M inp 3000
    jobP (bodyP p task.toNat (splitT (p.tasks.getD task.toNat Tsk.none).body k truth)) task M inp 3001 = ⟨R.mem, R.out, R.rd, R.st + 1, R.err⟩ := by
  intro R
  have hR : R = jobP p task M inp 3000 := rfl
  rw [bodyP_job h hq, show (3001 : Int) = 3000 + 1 by decide, split_ex _ k truth hk h47 3000 (by decide) inp _ rfl, hR, jobP_run h]
  rfl
theorem mem_two_new (w : World) (a b : Obj) : ((w.alloc a).alloc b).heap[w.heap.size]? = some a ∧ ((w.alloc a).alloc b).heap[w.heap.size + 1]? = some b ∧ Below w.heap.size w ((w.alloc a).alloc b) :=
  ⟨mem_old1 w a b, mem_new1 w a b, ((Below.refl _ _).alloc (Nat.le_refl _) _).alloc (by simp) _⟩
theorem set4_on {w : World} {b : Nat} {y0 y1 y2 y3 x0 x1 x2 x3 : Value} (h : w.heap[b]? = some (nodeObj y0 y1 y2 y3)) : (set4 w b x0 x1 x2 x3).heap[b]? = some (nodeObj x0 x1 x2 x3) := by
  unfold set4
  rw [mem_set (mem_set (mem_set (mem_set h)))]
  rfl
theorem splitT_list (t : Tree) (k : Nat) (truth : Bool) (hk : k ≤ t.len) : splitT t k truth = ofL ((splitT t k truth).kid 0 :: (List.range (t.len - k)).map (fun i => t.kid (k + i))) := by
  have hlen : ∀ x : Tree, (x :: (List.range (t.len - k)).map (fun i => t.kid (k + i))).length = 1 + (t.len - k) := fun x => by rw [List.length_cons, List.length_map, List.length_range]; omega
  refine Tree.eq_of rfl rfl rfl (hlen ((splitT t k truth).kid 0)).symm (fun i hi => ?_)
  have hi1 : i < 1 + (t.len - k) := hi
  have h2 : (ofL ((splitT t k truth).kid 0 :: (List.range (t.len - k)).map (fun i => t.kid (k + i)))).kid i = ((splitT t k truth).kid 0 :: (List.range (t.len - k)).map (fun i => t.kid (k + i))).getD i noT := Tree.make_kid (by rw [hlen]; exact hi1)
  rw [h2]
  cases i with
  | zero => rfl
  | succ i =>
    have h3 : (splitT t k truth).kid (i + 1) = t.kid (k + (i + 1 - 1)) := (Tree.make_kid hi1).trans (if_neg (by omega))
    rw [h3]
    simp [List.getD_eq_getElem?_getD, show i < t.len - k by omega]
theorem ifT_rep {S : Nat → Prop} {w : World} {g : Nat} {cn : Int} {TA TB : Tree} {aA aB : Option Addr} {cA cB : Nat} (hcn : isI64 cn) (h : w.heap[g]? = some (.cells #[.int .u8 1, .int .i64 cn, .string ⟨#[]⟩, .slice none 0 0, .int .u8 TA.kind, .int .i64 TA.num, .string TA.name, .slice aA TA.len cA, .int .u8 TB.kind, .int .i64 TB.num, .string TB.name, .slice aB TB.len cB] 50)) (hS : S g) (hA : RepIn S w TA aA) (hB : RepIn S w TB aB) : RepIn S w (ifT (numT cn) TA TB) (some ⟨g, 0, none⟩) := by
  refine RepIn.mk ⟨by show (0 : Int) ≤ 41 ∧ (41 : Int) ≤ 255; omega, by show (-9223372036854775808 : Int) ≤ 0 ∧ (0 : Int) ≤ 9223372036854775807; omega, by show (0 : Nat) ≤ _; omega, by show (3 : Nat) ≤ _; omega⟩ (.inr ⟨g, 0, rfl, hS, fun i hi => ?_⟩)
  have hi3 : i < 3 := hi
  match i, hi3 with
  | 0, _ => exact ⟨none, 0, ⟨mem_cell h 0, mem_cell h 1, mem_cell h 2, mem_cell h 3⟩, RepIn.mk ⟨by show (0 : Int) ≤ 1 ∧ (1 : Int) ≤ 255; omega, hcn, by show (0 : Nat) ≤ _; omega, by show (0 : Nat) ≤ _; omega⟩ (.inl rfl)⟩
  | 1, _ => exact ⟨aA, cA, ⟨mem_cell h 4, mem_cell h 5, mem_cell h 6, mem_cell h 7⟩, hA⟩
  | 2, _ => exact ⟨aB, cB, ⟨mem_cell h 8, mem_cell h 9, mem_cell h 10, mem_cell h 11⟩, hB⟩
theorem splits_any (p : Prg) (task : Int) (M : Mem) (inp : List Int) (cut : Int) (truth : Bool) (w : World) (sa ta : Option Addr) (sc tc : Nat) (ma ms : Option Addr) (mac msc : Nat) (ia : Option Addr) (ic : Nat)
    (hp : PrgAt w p sa ta) (hbc : BodyCap w ta p.tasks) (hm : MemAt w M ma ms) (hi : WordsAt w ia inp) (hg : SignsIn w) (ht : isI64 task) (hcut : 0 ≤ cut ∧ cut ≤ 255) :
    Calls Tryd.prog 9 #[p.val sa sc ta tc, .int .i64 task, M.val ma mac ms msc, .slice ia inp.length ic, .int .u8 cut, .bool truth] w fun e w' => e = .returned (.bool true) ∧ Below w.heap.size w w' := by
  obtain ⟨i0, hi0, hz0, hz1, hz2⟩ := info_parts node_info
  have hil := hi.fits
  obtain ⟨W, hW⟩ : ∃ W : World, w.alloc (prgObj p sa sc ta tc) = W := ⟨_, rfl⟩
  have hBW : Below w.heap.size w W := by rw [← hW]; exact mem_alloc _ _
  have hXW : W.heap[w.heap.size]? = some (prgObj p sa sc ta tc) := by rw [← hW]; exact mem_new _ _
  obtain ⟨W2, hW2⟩ : ∃ W2 : World, W.alloc (memObj M ma mac ms msc) = W2 := ⟨_, rfl⟩
  have hBW2 : Below W.heap.size W W2 := by rw [← hW2]; exact mem_alloc _ _
  have hXW2 : W2.heap[W.heap.size]? = some (memObj M ma mac ms msc) := by rw [← hW2]; exact mem_new _ _
  have HK : Hid (∀ w', Below W2.heap.size W2 w' → w'.heap[w.heap.size]? = some (prgObj p sa sc ta tc) ∧ w'.heap[W.heap.size]? = some (memObj M ma mac ms msc) ∧ PrgAt w' p sa ta ∧ MemAt w' M ma ms ∧ WordsAt w' ia inp ∧ SignsIn w' ∧ Below w.heap.size w w') := fun w' hw => by
    have hb := mem_then (mem_then hBW hBW2) hw
    exact ⟨mem_keep (mem_keep hXW hBW2) hw, mem_keep hXW2 hw, hp.below hb, hm.below hb, hi.below hb, hg.below hb, hb⟩
  have HAW := Lib.hid (awake_any W2 (HK.out W2 (Below.refl _ _)).2.2.2.2.2.1)
  have HT := Lib.hid ht
  have HPW := Lib.hid hp
  have HBC := Lib.hid hbc
  have HCUT := Lib.hid hcut
  clear hp hm hi hg hBW hXW hBW2 hXW2 ht hbc hcut
  go_enter Tryd.func9, Tryd.ntmps9
  go_wp2_with fail
  clear hW hW2
  refine HAW.out.mono ?_
  rintro e w1 ⟨rfl, hB1⟩
  have HB1 := Lib.hid hB1
  obtain ⟨hx1, hx2, hp1, hm1, _, _, _⟩ := HK.out w1 hB1
  obtain ⟨x0, x1⟩ := mem_two hx1
  obtain ⟨y0, y1⟩ := mem_two hx2
  have HGR := Lib.hid (great16_any p M inp.length w1 sa ta sc tc ma ms mac msc ia ic hp1 hm1 hil)
  clear HAW hB1 hx1 hx2 hp1 hm1
  go_wp2_with fail
  clear x0 x1 y0 y1
  refine HGR.out.mono ?_
  rintro e w2 ⟨rfl, hB2⟩
  have HB2 := Lib.hid (mem_then HB1.out hB2)
  clear HGR hB2
  cases hbig : bigP p M inp.length with
  | true =>
    have hbn := bigN_t hbig
    clear hbig
    go_wp2_with fail
    go_ret
    exact ⟨rfl, (HK.out w2 HB2.out).2.2.2.2.2.2⟩
  | false =>
  have hbn := bigN_f hbig
  have hn40 := bigP_f hbig
  obtain ⟨hx1, hx2, hp1, hm1, _, hg1, _⟩ := HK.out w2 HB2.out
  obtain ⟨x0, x1⟩ := mem_two hx1
  obtain ⟨y0, y1⟩ := mem_two hx2
  have HRN := Lib.hid (runnable_any p task M w2 sa ta sc tc ma ms mac msc hp1 hm1 hg1 HT.out)
  clear hbig hx1 hx2 hp1 hm1 hg1
  go_wp2_with fail
  clear x0 x1 y0 y1
  refine HRN.out.mono ?_
  rintro e w3 ⟨rfl, hB3⟩
  have HB3 := Lib.hid (mem_then HB2.out hB3)
  clear HRN hB3
  cases hrun : runP p task M with
  | false =>
    clear hrun
    go_wp2_with fail
    go_ret
    exact ⟨rfl, (HK.out w3 HB3.out).2.2.2.2.2.2⟩
  | true =>
  have HRUN := Lib.hid hrun
  obtain ⟨i, hti, hil2, hok⟩ : ∃ i : Nat, task = (i : Int) ∧ i < p.tasks.length ∧ okP p = true := by
    unfold runP at hrun
    simp only [Bool.and_eq_true, decide_eq_true_eq] at hrun
    obtain ⟨g1, g2, g3, _⟩ := hrun
    exact ⟨task.toNat, by omega, by omega, g1⟩
  subst hti
  have hi2 : (i : Int) < (p.tasks.length : Int) := by omega
  have hi00 : (0 : Int) ≤ (i : Int) := by omega
  have HLE := Lib.hid (prgOk_le (okP_parts hok).1)
  obtain ⟨tb, tf, q, hta, hc, hin⟩ := HPW.out.2.2 i hil2
  have hcap0 := HBC.out i hil2 tb tf q hta hc
  subst hta
  obtain ⟨t, ht⟩ : ∃ t, p.tasks.getD i Tsk.none = t := ⟨_, rfl⟩
  rw [ht] at hc hin hcap0
  have HTD := Lib.hid ht
  have HTOK : Hid (tskOk t = true) := by show _ = _; rw [← ht]; exact HLE.out.2.2 i hil2
  have hbl : t.body.len ≤ 400 := by
    have h1 := (tskOk_le HTOK.out).2.2
    have h2 := Tree.size_eq t.body
    have h3 : ∀ (f : Nat → Nat) (n : Nat), (∀ i, 1 ≤ f i) → n ≤ Tree.sumTo f n := by
      intro f n hf
      induction n with
      | zero => exact Nat.zero_le _
      | succ n ihn => rw [Tree.sumTo_succ]; have := hf n; omega
    have h4 := h3 (fun i => (t.body.kid i).size) t.body.len (fun i => Tree.size_pos _)
    omega
  obtain ⟨hx1, hx2, hp3, hm3, hi3, hg3, hb3⟩ := HK.out w3 HB3.out
  have HIN := Lib.hid (hin.below hb3)
  have HIN0 := Lib.hid hin
  have c7 : w3.cell? ⟨tb, tf + i * 8 + 7, none⟩ = some (.slice q.ka t.body.len q.kc) := cell_below hb3 (hc 7 (by omega))
  have hbt := World.block_lt_of_cell? _ _ c7
  have HTB : Hid (tb < W2.heap.size) := by have h1 := World.block_lt_of_cell? _ _ (show w.cell? ⟨tb, tf + i * 8 + 7, none⟩ = some (.slice q.ka t.body.len q.kc) from hc 7 (by omega)); have h2 := (HK.out W2 (Below.refl _ _)).2.2.2.2.2.2.size; show _ < _; exact Nat.lt_of_lt_of_le h1 h2
  obtain ⟨x0, x1⟩ := mem_two hx1
  obtain ⟨k, hk⟩ : ∃ k : Nat, cut % ((t.body.len : Int) + 1) = (k : Int) := ⟨(cut % ((t.body.len : Int) + 1)).toNat, by have := Int.emod_nonneg cut (show ((t.body.len : Int) + 1) ≠ 0 by omega); omega⟩
  have hkl : k ≤ t.body.len := by have := Int.emod_lt_of_pos cut (show (0 : Int) < (t.body.len : Int) + 1 by omega); omega
  have hk2 : cut.tmod ((t.body.len : Int) + 1) = (k : Int) := by rw [Int.tmod_eq_emod_of_nonneg HCUT.out.1]; exact hk
  have hne1 : (t.body.len : Int) + 1 ≠ 0 := by omega
  have hwr : IntKind.i64.wrap cut = cut := by have := HCUT.out; rw [IntKind.wrap_i64]; omega
  have hkk1 : (k : Int) ≤ (q.kc : Int) := by omega
  have hkk2 : k ≤ q.kc := by omega
  have hkk3 : (k : Int) ≤ (t.body.len : Int) := by omega
  have hk0 : (0 : Int) ≤ (k : Int) := by omega
  obtain ⟨A2, hA2⟩ : ∃ A2, lowA q.ka q.kc k 4 = A2 := ⟨_, rfl⟩
  have HA2 := Lib.hid hA2
  unfold lowA at hA2
  clear hrun hok ht hc hin hx1 hx2 hp3 hm3 hi3 hg3 hb3
  go_upto_region 10 with fail
  clear x0 x1 c7
  have hX3 := mem_three w3 (nodeObj (.int .u8 47) (.int .i64 0) (.string ⟨#[]⟩) (.slice q.ka k q.kc)) (nodeObj (.int .u8 47) (.int .i64 0) (.string ⟨#[]⟩) (.slice A2 (t.body.len - k) (q.kc - k))) (nodeObj (.int .u8 1) (.int .i64 7) (.string ⟨#[]⟩) (.slice none 0 0))
  obtain ⟨X, hX⟩ : ∃ X : World, ((w3.alloc (nodeObj (.int .u8 47) (.int .i64 0) (.string ⟨#[]⟩) (.slice q.ka k q.kc))).alloc (nodeObj (.int .u8 47) (.int .i64 0) (.string ⟨#[]⟩) (.slice A2 (t.body.len - k) (q.kc - k)))).alloc (nodeObj (.int .u8 1) (.int .i64 7) (.string ⟨#[]⟩) (.slice none 0 0)) = X := ⟨_, rfl⟩
  rw [hX] at hX3 ⊢
  obtain ⟨hx15, hx16, hx17, hBX⟩ := hX3
  obtain ⟨b15, hb15⟩ : ∃ b, w3.heap.size = b := ⟨_, rfl⟩
  obtain ⟨b16, hb16⟩ : ∃ b, w3.heap.size + 1 = b := ⟨_, rfl⟩
  obtain ⟨b17, hb17⟩ : ∃ b, w3.heap.size + 1 + 1 = b := ⟨_, rfl⟩
  rw [hb17] at hx17 ⊢
  rw [hb16] at hx16 ⊢
  rw [hb15] at hx15 ⊢
  have HX15 := Lib.hid hx15
  have HX16 := Lib.hid hx16
  have HX17 := Lib.hid hx17
  have HBX : Hid (Below W2.heap.size W2 X) := mem_then HB3.out hBX
  have HB15 : Hid (W2.heap.size ≤ b15 ∧ W2.heap.size ≤ b16 ∧ W2.heap.size ≤ b17) := by have := HB3.out.size; show _ ∧ _ ∧ _; omega
  clear hx15 hx16 hx17 hBX hb15 hb16 hb17 hX hA2
  go_cut [18, 19] (fun s1 s2 w' => ∃ b1 b2, s1 = .pointer (some ⟨b1, 0, none⟩) ∧ s2 = .pointer (some ⟨b2, 0, none⟩) ∧ b1 ≠ b2 ∧ X.heap.size ≤ b1 ∧ X.heap.size ≤ b2 ∧ w'.heap[b1]? = some (nodeObj (.int .u8 47) (.int .i64 0) (.string ⟨#[]⟩) (.slice q.ka k q.kc)) ∧ w'.heap[b2]? = some (nodeObj (.int .u8 47) (.int .i64 0) (.string ⟨#[]⟩) (.slice A2 (t.body.len - k) (q.kc - k))) ∧ Below X.heap.size X w')
  case first =>
    have hD0 : Below X.heap.size X (World.drew X) := (Below.refl _ _).drew
    refine wp_region_held_drew (S := fun w' => Below X.heap.size X w') (by kernel_rfl) hD0 (fun hHeld => ?_)
    generalize hwd : World.drew X = v1 at hHeld hD0 ⊢
    clear hwd hD0
    have HHV := Lib.hid hHeld
    refine wpAnyH_take (i := 0) (v := .agg #[.int .u8 47, .int .i64 0, .string ⟨#[]⟩, .slice q.ka k q.kc]) rfl (by kernel_rfl) (by kernel_rfl) (by kernel_rfl) (fun _ _ _ h => h) (Or.inl ⟨by rfl, ?_⟩) (by assumption) ?_
    · intro w' hSw; obtain ⟨z0, z1, z2, z3⟩ := node_cells (mem_keep HX15.out hSw); go_simp
    (try simp only [Act.put, List.getElem_toArray, List.getElem_cons_zero, List.setIfInBounds_toArray, List.set_cons_zero, List.set_cons_succ])
    refine wpAnyH_take (i := 1) (v := .agg #[.int .u8 47, .int .i64 0, .string ⟨#[]⟩, .slice A2 (t.body.len - k) (q.kc - k)]) rfl (by kernel_rfl) (by kernel_rfl) (by kernel_rfl) (fun _ _ _ h => h) (Or.inl ⟨by rfl, ?_⟩) (by assumption) ?_
    · intro w' hSw; obtain ⟨z0, z1, z2, z3⟩ := node_cells (mem_keep HX16.out hSw); go_simp
    (try simp only [Act.put, List.getElem_toArray, List.getElem_cons_zero, List.getElem_cons_succ, List.setIfInBounds_toArray, List.set_cons_zero, List.set_cons_succ])
    have two := mem_two_new v1 zNode zNode
    have HT2 := Lib.hid two
    clear two
    refine wpAnyH_ready (rs := [2, 3]) (by kernel_rfl) (by simp) (AllReadyH.cons rfl (fun K hK => ?_) (AllReadyH.cons rfl (fun K hK => ?_) AllReadyH.nil))
    · go_simp
      refine hK.out _ _ (mem_then HHV.out (mem_alloc _ _)) (fun hHeld => ?_)
      clear hK K
      rename_i hOld
      clear hOld
      (try simp only [Act.put, List.getElem_toArray, List.getElem_cons_zero, List.getElem_cons_succ, List.setIfInBounds_toArray, List.set_cons_zero, List.set_cons_succ])
      refine wpAnyH_ready (rs := [3]) (by kernel_rfl) (by simp) (AllReadyH.cons rfl (fun K hK => ?_) AllReadyH.nil)
      go_simp
      refine hK.out _ _ (mem_then HHV.out HT2.out.2.2) (fun hHeld => ?_)
      clear hK K
      rename_i hOld
      clear hOld
      (try simp only [Act.put, List.getElem_toArray, List.getElem_cons_zero, List.getElem_cons_succ, List.setIfInBounds_toArray, List.set_cons_zero, List.set_cons_succ])
      have HUB := Lib.hid (mem_then HHV.out HT2.out.2.2)
      generalize hU : (v1.alloc zNode).alloc zNode = U at HT2 HUB hHeld ⊢
      clear hU
      obtain ⟨bB, hbB⟩ : ∃ b, v1.heap.size + 1 = b := ⟨_, rfl⟩
      obtain ⟨bA, hbA⟩ : ∃ b, v1.heap.size = b := ⟨_, rfl⟩
      have HZA : Hid (U.heap[bA]? = some zNode) := by show _ = _; rw [← hbA]; exact HT2.out.1
      have HZB : Hid (U.heap[bB]? = some zNode) := by show _ = _; rw [← hbB]; exact HT2.out.2.1
      have HNE : Hid (bA ≠ bB) := by show _ ≠ _; omega
      have HGE : Hid (X.heap.size ≤ bA ∧ X.heap.size ≤ bB) := by have := HHV.out.size; show _ ∧ _; omega
      try rw [hbB]
      try rw [hbA]
      clear hbA hbB HT2
      obtain ⟨y0, y1, y2, y3⟩ := node_cells HZA.out
      have f0 := mem_free HZA.out 0
      have f1 := mem_free HZA.out 1
      have f2 := mem_free HZA.out 2
      have f3 := mem_free HZA.out 3
      obtain ⟨U2, hU2⟩ : ∃ U2 : World, set4 U bA (.int .u8 47) (.int .i64 0) (.string ⟨#[]⟩) (.slice q.ka k q.kc) = U2 := ⟨_, rfl⟩
      have HA2' : Hid (U2.heap[bA]? = some (nodeObj (.int .u8 47) (.int .i64 0) (.string ⟨#[]⟩) (.slice q.ka k q.kc))) := by show _ = _; rw [← hU2]; exact set4_at HZA.out
      have HZB2 : Hid (U2.heap[bB]? = some zNode) := by show _ = _; rw [← hU2, set4_far (fun e => HNE.out e.symm)]; exact HZB.out
      have HBU2 : Hid (Below X.heap.size X U2) := by show Below _ _ _; rw [← hU2]; exact set4_below HUB.out HGE.out.1
      obtain ⟨p0, p1, p2, p3⟩ := node_cells HZB2.out
      have g0 := mem_free HZB2.out 0
      have g1 := mem_free HZB2.out 1
      have g2 := mem_free HZB2.out 2
      have g3 := mem_free HZB2.out 3
      obtain ⟨U3, hU3⟩ : ∃ U3 : World, set4 U2 bB (.int .u8 47) (.int .i64 0) (.string ⟨#[]⟩) (.slice A2 (t.body.len - k) (q.kc - k)) = U3 := ⟨_, rfl⟩
      have HB3' : Hid (U3.heap[bB]? = some (nodeObj (.int .u8 47) (.int .i64 0) (.string ⟨#[]⟩) (.slice A2 (t.body.len - k) (q.kc - k)))) := by show _ = _; rw [← hU3]; exact set4_at HZB2.out
      have HA3' : Hid (U3.heap[bA]? = some (nodeObj (.int .u8 47) (.int .i64 0) (.string ⟨#[]⟩) (.slice q.ka k q.kc))) := by show _ = _; rw [← hU3, set4_far HNE.out]; exact HA2'.out
      have HBU3 : Hid (Below X.heap.size X U3) := by show Below _ _ _; rw [← hU3]; exact set4_below HBU2.out HGE.out.2
      unfold set4 at hU2 hU3
      refine wpAnyH_ready (rs := [4]) (by kernel_rfl) (by simp) (AllReadyH.cons rfl (fun K hK => ?_) AllReadyH.nil)
      go_simp
      try rw [hU2]
      refine hK.out _ _ (HBU2.out) (fun hHeld => ?_)
      clear hK K
      rename_i hOld
      clear hOld
      (try simp only [Act.put, List.getElem_toArray, List.getElem_cons_zero, List.getElem_cons_succ, List.setIfInBounds_toArray, List.set_cons_zero, List.set_cons_succ])
      refine wpAnyH_ready (rs := [5]) (by kernel_rfl) (by simp) (AllReadyH.cons rfl (fun K hK => ?_) AllReadyH.nil)
      go_simp
      try rw [hU3]
      refine hK.out _ _ (HBU3.out) (fun hHeld => ?_)
      clear hK K
      rename_i hOld
      clear hOld
      (try simp only [Act.put, List.getElem_toArray, List.getElem_cons_zero, List.getElem_cons_succ, List.setIfInBounds_toArray, List.set_cons_zero, List.set_cons_succ])
      clear hHeld y0 y1 y2 y3 f0 f1 f2 f3 p0 p1 p2 p3 g0 g1 g2 g3 hU2 hU3
      refine wpAnyH_done (by kernel_rfl) ?_ _
      go_wp2_with fail
      go_meet
      exact ⟨bA, bB, rfl, rfl, HNE.out, HGE.out.1, HGE.out.2, HA3'.out, HB3'.out, HBU3.out⟩
    · go_simp
      refine hK.out _ _ (mem_then HHV.out (mem_alloc _ _)) (fun hHeld => ?_)
      clear hK K
      rename_i hOld
      clear hOld
      (try simp only [Act.put, List.getElem_toArray, List.getElem_cons_zero, List.getElem_cons_succ, List.setIfInBounds_toArray, List.set_cons_zero, List.set_cons_succ])
      refine wpAnyH_ready (rs := [2]) (by kernel_rfl) (by simp) (AllReadyH.cons rfl (fun K hK => ?_) AllReadyH.nil)
      go_simp
      refine hK.out _ _ (mem_then HHV.out HT2.out.2.2) (fun hHeld => ?_)
      clear hK K
      rename_i hOld
      clear hOld
      (try simp only [Act.put, List.getElem_toArray, List.getElem_cons_zero, List.getElem_cons_succ, List.setIfInBounds_toArray, List.set_cons_zero, List.set_cons_succ])
      have HUB := Lib.hid (mem_then HHV.out HT2.out.2.2)
      generalize hU : (v1.alloc zNode).alloc zNode = U at HT2 HUB hHeld ⊢
      clear hU
      obtain ⟨bA, hbA⟩ : ∃ b, v1.heap.size + 1 = b := ⟨_, rfl⟩
      obtain ⟨bB, hbB⟩ : ∃ b, v1.heap.size = b := ⟨_, rfl⟩
      have HZA : Hid (U.heap[bA]? = some zNode) := by show _ = _; rw [← hbA]; exact HT2.out.2.1
      have HZB : Hid (U.heap[bB]? = some zNode) := by show _ = _; rw [← hbB]; exact HT2.out.1
      have HNE : Hid (bA ≠ bB) := by show _ ≠ _; omega
      have HGE : Hid (X.heap.size ≤ bA ∧ X.heap.size ≤ bB) := by have := HHV.out.size; show _ ∧ _; omega
      try rw [hbA]
      try rw [hbB]
      clear hbA hbB HT2
      obtain ⟨y0, y1, y2, y3⟩ := node_cells HZA.out
      have f0 := mem_free HZA.out 0
      have f1 := mem_free HZA.out 1
      have f2 := mem_free HZA.out 2
      have f3 := mem_free HZA.out 3
      obtain ⟨U2, hU2⟩ : ∃ U2 : World, set4 U bA (.int .u8 47) (.int .i64 0) (.string ⟨#[]⟩) (.slice q.ka k q.kc) = U2 := ⟨_, rfl⟩
      have HA2' : Hid (U2.heap[bA]? = some (nodeObj (.int .u8 47) (.int .i64 0) (.string ⟨#[]⟩) (.slice q.ka k q.kc))) := by show _ = _; rw [← hU2]; exact set4_at HZA.out
      have HZB2 : Hid (U2.heap[bB]? = some zNode) := by show _ = _; rw [← hU2, set4_far (fun e => HNE.out e.symm)]; exact HZB.out
      have HBU2 : Hid (Below X.heap.size X U2) := by show Below _ _ _; rw [← hU2]; exact set4_below HUB.out HGE.out.1
      obtain ⟨p0, p1, p2, p3⟩ := node_cells HZB2.out
      have g0 := mem_free HZB2.out 0
      have g1 := mem_free HZB2.out 1
      have g2 := mem_free HZB2.out 2
      have g3 := mem_free HZB2.out 3
      obtain ⟨U3, hU3⟩ : ∃ U3 : World, set4 U2 bB (.int .u8 47) (.int .i64 0) (.string ⟨#[]⟩) (.slice A2 (t.body.len - k) (q.kc - k)) = U3 := ⟨_, rfl⟩
      have HB3' : Hid (U3.heap[bB]? = some (nodeObj (.int .u8 47) (.int .i64 0) (.string ⟨#[]⟩) (.slice A2 (t.body.len - k) (q.kc - k)))) := by show _ = _; rw [← hU3]; exact set4_at HZB2.out
      have HA3' : Hid (U3.heap[bA]? = some (nodeObj (.int .u8 47) (.int .i64 0) (.string ⟨#[]⟩) (.slice q.ka k q.kc))) := by show _ = _; rw [← hU3, set4_far HNE.out]; exact HA2'.out
      have HBU3 : Hid (Below X.heap.size X U3) := by show Below _ _ _; rw [← hU3]; exact set4_below HBU2.out HGE.out.2
      unfold set4 at hU2 hU3
      refine wpAnyH_ready (rs := [4]) (by kernel_rfl) (by simp) (AllReadyH.cons rfl (fun K hK => ?_) AllReadyH.nil)
      go_simp
      try rw [hU2]
      refine hK.out _ _ (HBU2.out) (fun hHeld => ?_)
      clear hK K
      rename_i hOld
      clear hOld
      (try simp only [Act.put, List.getElem_toArray, List.getElem_cons_zero, List.getElem_cons_succ, List.setIfInBounds_toArray, List.set_cons_zero, List.set_cons_succ])
      refine wpAnyH_ready (rs := [5]) (by kernel_rfl) (by simp) (AllReadyH.cons rfl (fun K hK => ?_) AllReadyH.nil)
      go_simp
      try rw [hU3]
      refine hK.out _ _ (HBU3.out) (fun hHeld => ?_)
      clear hK K
      rename_i hOld
      clear hOld
      (try simp only [Act.put, List.getElem_toArray, List.getElem_cons_zero, List.getElem_cons_succ, List.setIfInBounds_toArray, List.set_cons_zero, List.set_cons_succ])
      clear hHeld y0 y1 y2 y3 f0 f1 f2 f3 p0 p1 p2 p3 g0 g1 g2 g3 hU2 hU3
      refine wpAnyH_done (by kernel_rfl) ?_ _
      go_wp2_with fail
      go_meet
      exact ⟨bA, bB, rfl, rfl, HNE.out, HGE.out.1, HGE.out.2, HA3'.out, HB3'.out, HBU3.out⟩
  case rest =>
    obtain ⟨b1, b2, rfl, rfl, hne, hge1, hge2, hx1, hx2, hB⟩ := hcut
    obtain ⟨Y, hYc⟩ : ∃ Y : World, Y = wc := ⟨_, rfl⟩
    subst hYc
    have HX1 := Lib.hid hx1
    have HX2 := Lib.hid hx2
    have HNE := Lib.hid hne
    have HGE : Hid (W2.heap.size ≤ b1 ∧ W2.heap.size ≤ b2) := by have := HBX.out.size; show _ ∧ _; omega
    have HXLT : Hid (b16 < X.heap.size ∧ b17 < X.heap.size ∧ X.heap.size ≤ b1 ∧ X.heap.size ≤ b2) := ⟨mem_lt HX16.out, mem_lt HX17.out, hge1, hge2⟩
    have HY16 := Lib.hid (mem_keep HX16.out hB)
    have HY15 := Lib.hid (mem_keep HX15.out hB)
    have HY17 := Lib.hid (mem_keep HX17.out hB)
    have HBY := Lib.hid (mem_then HBX.out hB)
    have HRA : Hid (∀ w', Below W2.heap.size W2 w' → Rep w' (blk t.body 0 k) q.ka ∧ Rep w' (blk t.body k (t.body.len - k)) A2) := fun w' hw => by
      have hr : Rep w' t.body q.ka := (HIN0.out.below (HK.out w' hw).2.2.2.2.2.2).body
      refine ⟨blk_rep2 hr (by omega) (by omega) (.inr (fun b off e => by rw [e, Nat.zero_mul, Nat.add_zero])), blk_rep2 hr (by omega) (by omega) ?_⟩
      by_cases h0 : t.body.len - k = 0
      · exact .inl h0
      · refine .inr (fun b off e => ?_)
        rw [← HA2.out, e]
        exact (lowA_at (by omega)).resolve_left h0
    clear hne hge1 hge2 hx1 hx2 hB
    go_upto_if 62 with fail
    go_cut [] (fun w' => ∃ TA TB aA cA aB cB cn, w'.heap[b17]? = some (nodeObj (.int .u8 1) (.int .i64 cn) (.string ⟨#[]⟩) (.slice none 0 0)) ∧ w'.heap[b1]? = some (nodeObj (.int .u8 TA.kind) (.int .i64 TA.num) (.string TA.name) (.slice aA TA.len cA)) ∧ w'.heap[b2]? = some (nodeObj (.int .u8 TB.kind) (.int .i64 TB.num) (.string TB.name) (.slice aB TB.len cB)) ∧ (splitT t.body k truth).kid 0 = ifT (numT cn) TA TB ∧ isI64 cn ∧ (∀ w', Below W2.heap.size W2 w' → Rep w' TA aA ∧ Rep w' TB aB) ∧ Below W2.heap.size W2 w')
    case first =>
      cases truth with
      | true =>
        go_wp2_with fail
        go_meet
        exact ⟨blk t.body 0 k, blk t.body k (t.body.len - k), q.ka, q.kc, A2, q.kc - k, 7, HY17.out, HX1.out, HX2.out, Tree.make_kid (by show 0 < 1 + _; omega), ⟨by decide, by decide⟩, HRA.out, HBY.out⟩
      | false =>
        have z1 := mem_cell HY17.out 1
        have f1 := mem_free HY17.out 1
        go_upto_region 13 with fail
        clear z1 f1
        obtain ⟨Y1, hY1⟩ : ∃ Y1 : World, Y.setCell ⟨b17, 1, none⟩ (.int .i64 0) = Y1 := ⟨_, rfl⟩
        try rw [hY1]
        have hne1 : b17 ≠ b1 ∧ b17 ≠ b2 ∧ b17 ≠ b16 ∧ b17 ≠ b15 := by
          have h1 := HXLT.out
          refine ⟨by omega, by omega, fun e => ?_, fun e => ?_⟩
          · have h2 := HY17.out
            rw [e, HY16.out] at h2
            injection h2 with h2
            injection h2 with h2
            simp at h2
          · have h2 := HY17.out
            rw [e, HY15.out] at h2
            injection h2 with h2
            injection h2 with h2
            simp at h2
        have H17 : Hid (Y1.heap[b17]? = some (nodeObj (.int .u8 1) (.int .i64 0) (.string ⟨#[]⟩) (.slice none 0 0))) := by show _ = _; rw [← hY1, mem_set HY17.out]; rfl
        have H16 : Hid (Y1.heap[b16]? = some (nodeObj (.int .u8 47) (.int .i64 0) (.string ⟨#[]⟩) (.slice A2 (t.body.len - k) (q.kc - k)))) := by show _ = _; rw [← hY1, Below.heap_setCell _ _ _ _ (fun e => hne1.2.2.1 e.symm)]; exact HY16.out
        have H15 : Hid (Y1.heap[b15]? = some (nodeObj (.int .u8 47) (.int .i64 0) (.string ⟨#[]⟩) (.slice q.ka k q.kc))) := by show _ = _; rw [← hY1, Below.heap_setCell _ _ _ _ (fun e => hne1.2.2.2 e.symm)]; exact HY15.out
        have H1 : Hid (Y1.heap[b1]? = some (nodeObj (.int .u8 47) (.int .i64 0) (.string ⟨#[]⟩) (.slice q.ka k q.kc))) := by show _ = _; rw [← hY1, Below.heap_setCell _ _ _ _ (fun e => hne1.1 e.symm)]; exact HX1.out
        have H2 : Hid (Y1.heap[b2]? = some (nodeObj (.int .u8 47) (.int .i64 0) (.string ⟨#[]⟩) (.slice A2 (t.body.len - k) (q.kc - k)))) := by show _ = _; rw [← hY1, Below.heap_setCell _ _ _ _ (fun e => hne1.2.1 e.symm)]; exact HX2.out
        have HBY1 : Hid (Below W2.heap.size W2 Y1) := by show Below _ _ _; rw [← hY1]; exact HBY.out.setCell (p := ⟨b17, 1, none⟩) HB15.out.2.2 _
        have HNEX : Hid (b17 ≠ b1 ∧ b17 ≠ b2) := ⟨hne1.1, hne1.2.1⟩
        clear hY1 hne1
        have hD0 : Below Y1.heap.size Y1 (World.drew Y1) := (Below.refl _ _).drew
        refine wp_region_held_drew (S := fun w' => w'.heap[b15]? = some (nodeObj (.int .u8 47) (.int .i64 0) (.string ⟨#[]⟩) (.slice q.ka k q.kc)) ∧ w'.heap[b16]? = some (nodeObj (.int .u8 47) (.int .i64 0) (.string ⟨#[]⟩) (.slice A2 (t.body.len - k) (q.kc - k)))) (by kernel_rfl) ⟨mem_keep H15.out hD0, mem_keep H16.out hD0⟩ (fun hHeld => ?_)
        generalize hwd : World.drew Y1 = U at hHeld hD0 ⊢
        clear hwd
        have HZA := Lib.hid (mem_keep H1.out hD0)
        have HZB := Lib.hid (mem_keep H2.out hD0)
        have HZ7 := Lib.hid (mem_keep H17.out hD0)
        have HBV := Lib.hid (mem_then HBY1.out hD0)
        have HH := Lib.hid hHeld
        clear hD0
        refine wpAnyH_take (i := 0) (v := .agg #[.int .u8 47, .int .i64 0, .string ⟨#[]⟩, .slice A2 (t.body.len - k) (q.kc - k)]) rfl (by kernel_rfl) (by kernel_rfl) (by kernel_rfl) (fun _ _ _ h => h) (Or.inl ⟨by rfl, ?_⟩) (by assumption) ?_
        · intro w' hSw; obtain ⟨z0, z1, z2, z3⟩ := node_cells hSw.2; go_simp
        (try simp only [Act.put, List.getElem_toArray, List.getElem_cons_zero, List.setIfInBounds_toArray, List.set_cons_zero, List.set_cons_succ])
        refine wpAnyH_take (i := 1) (v := .agg #[.int .u8 47, .int .i64 0, .string ⟨#[]⟩, .slice q.ka k q.kc]) rfl (by kernel_rfl) (by kernel_rfl) (by kernel_rfl) (fun _ _ _ h => h) (Or.inl ⟨by rfl, ?_⟩) (by assumption) ?_
        · intro w' hSw; obtain ⟨z0, z1, z2, z3⟩ := node_cells hSw.1; go_simp
        (try simp only [Act.put, List.getElem_toArray, List.getElem_cons_zero, List.getElem_cons_succ, List.setIfInBounds_toArray, List.set_cons_zero, List.set_cons_succ])
        obtain ⟨y0, y1, y2, y3⟩ := node_cells HZA.out
        have f0 := mem_free HZA.out 0
        have f1 := mem_free HZA.out 1
        have f2 := mem_free HZA.out 2
        have f3 := mem_free HZA.out 3
        obtain ⟨U2, hU2⟩ : ∃ U2 : World, set4 U b1 (.int .u8 47) (.int .i64 0) (.string ⟨#[]⟩) (.slice A2 (t.body.len - k) (q.kc - k)) = U2 := ⟨_, rfl⟩
        have HA2' : Hid (U2.heap[b1]? = some (nodeObj (.int .u8 47) (.int .i64 0) (.string ⟨#[]⟩) (.slice A2 (t.body.len - k) (q.kc - k)))) := by show _ = _; rw [← hU2]; exact set4_on HZA.out
        have HZB2 : Hid (U2.heap[b2]? = some (nodeObj (.int .u8 47) (.int .i64 0) (.string ⟨#[]⟩) (.slice A2 (t.body.len - k) (q.kc - k)))) := by show _ = _; rw [← hU2, set4_far (fun e => HNE.out e.symm)]; exact HZB.out
        have HBU2 : Hid (Below W2.heap.size W2 U2) := by show Below _ _ _; rw [← hU2]; exact set4_below HBV.out HGE.out.1
        have HS2 : Hid (∀ b, b < X.heap.size → U2.heap[b]? = U.heap[b]?) := fun b hb => by rw [← hU2, set4_far (by have := HXLT.out; omega)]
        obtain ⟨p0, p1, p2, p3⟩ := node_cells HZB2.out
        have g0 := mem_free HZB2.out 0
        have g1 := mem_free HZB2.out 1
        have g2 := mem_free HZB2.out 2
        have g3 := mem_free HZB2.out 3
        obtain ⟨U3, hU3⟩ : ∃ U3 : World, set4 U2 b2 (.int .u8 47) (.int .i64 0) (.string ⟨#[]⟩) (.slice q.ka k q.kc) = U3 := ⟨_, rfl⟩
        have HB3' : Hid (U3.heap[b2]? = some (nodeObj (.int .u8 47) (.int .i64 0) (.string ⟨#[]⟩) (.slice q.ka k q.kc))) := by show _ = _; rw [← hU3]; exact set4_on HZB2.out
        have HA3' : Hid (U3.heap[b1]? = some (nodeObj (.int .u8 47) (.int .i64 0) (.string ⟨#[]⟩) (.slice A2 (t.body.len - k) (q.kc - k)))) := by show _ = _; rw [← hU3, set4_far HNE.out]; exact HA2'.out
        have HBU3 : Hid (Below W2.heap.size W2 U3) := by show Below _ _ _; rw [← hU3]; exact set4_below HBU2.out HGE.out.2
        have HS3 : Hid (∀ b, b < X.heap.size → U3.heap[b]? = U.heap[b]?) := fun b hb => by rw [← hU3, set4_far (by have := HXLT.out; omega)]; exact HS2.out b hb
        have hl15 : b15 < X.heap.size := mem_lt HX15.out
        unfold set4 at hU2 hU3
        refine wpAnyH_ready (rs := [2]) (by kernel_rfl) (by simp) (AllReadyH.cons rfl (fun K hK => ?_) AllReadyH.nil)
        go_simp
        try rw [hU2]
        refine hK.out _ _ (⟨(HS2.out _ hl15).trans HH.out.1, (HS2.out _ HXLT.out.1).trans HH.out.2⟩) (fun hHeld => ?_)
        clear hK K
        rename_i hOld
        clear hOld
        (try simp only [Act.put, List.getElem_toArray, List.getElem_cons_zero, List.getElem_cons_succ, List.setIfInBounds_toArray, List.set_cons_zero, List.set_cons_succ])
        refine wpAnyH_ready (rs := [3]) (by kernel_rfl) (by simp) (AllReadyH.cons rfl (fun K hK => ?_) AllReadyH.nil)
        go_simp
        try rw [hU3]
        refine hK.out _ _ (⟨(HS3.out _ hl15).trans HH.out.1, (HS3.out _ HXLT.out.1).trans HH.out.2⟩) (fun hHeld => ?_)
        clear hK K
        rename_i hOld
        clear hOld
        (try simp only [Act.put, List.getElem_toArray, List.getElem_cons_zero, List.getElem_cons_succ, List.setIfInBounds_toArray, List.set_cons_zero, List.set_cons_succ])
        clear hHeld y0 y1 y2 y3 f0 f1 f2 f3 p0 p1 p2 p3 g0 g1 g2 g3 hU2 hU3
        refine wpAnyH_done (by kernel_rfl) ?_ _
        go_wp2_with fail
        go_meet
        exact ⟨blk t.body k (t.body.len - k), blk t.body 0 k, A2, q.kc - k, q.ka, q.kc, 0, (HS3.out _ HXLT.out.2.1).trans HZ7.out, HA3'.out, HB3'.out, Tree.make_kid (by show 0 < 1 + _; omega), ⟨by decide, by decide⟩, fun w' hw => (HRA.out w' hw).symm, HBU3.out⟩
    case rest =>
      obtain ⟨TA, TB, aA, cA, aB, cB, cn, hx17, hx1, hx2, hsp, hcn, hRAB, hBZ⟩ := hcut
      obtain ⟨Z, hZc⟩ : ∃ Z : World, Z = wc := ⟨_, rfl⟩
      subst hZc
      have HZ17 := Lib.hid hx17
      have HZ1 := Lib.hid hx1
      have HZ2 := Lib.hid hx2
      have HSP := Lib.hid hsp
      have HCN := Lib.hid hcn
      have HRAB := Lib.hid hRAB
      have HBZ := Lib.hid hBZ
      obtain ⟨hq1, _⟩ := HK.out Z hBZ
      obtain ⟨x0, x1⟩ := mem_two hq1
      obtain ⟨V1, hV1⟩ : ∃ V : World, Z.alloc (prgObj p sa sc (some ⟨tb, tf, none⟩) tc) = V := ⟨_, rfl⟩
      have hbV1 : Below Z.heap.size Z V1 := by rw [← hV1]; exact mem_alloc _ _
      have hXV1 : V1.heap[Z.heap.size]? = some (prgObj p sa sc (some ⟨tb, tf, none⟩) tc) := by rw [← hV1]; exact mem_new _ _
      obtain ⟨V2, hV2⟩ : ∃ V : World, V1.alloc (.cells #[] 52) = V := ⟨_, rfl⟩
      have hbV2 : Below V1.heap.size V1 V2 := by rw [← hV2]; exact mem_alloc _ _
      have hXV2 : V2.heap[V1.heap.size]? = some (.cells #[] 52) := by rw [← hV2]; exact mem_new _ _
      have HV12 : Hid (Z.heap.size < V1.heap.size ∧ V1.heap.size < V2.heap.size) := ⟨mem_lt hXV1, mem_lt hXV2⟩
      have HMADE : Hid (V2.ownsRow V1.heap.size 52 8 (.slice (some ⟨V1.heap.size, 0, none⟩) 0 0) 0 []) := ⟨rfl, .inr ⟨V1.heap.size, 0, #[], rfl, Nat.le_refl _, hXV2, by omega, by unfold maxLen; omega, rfl, rfl⟩⟩
      have HBV2 : Hid (Below Z.heap.size Z V2) := mem_then hbV1 hbV2
      obtain ⟨news, hsrc, hnews, hones⟩ := ((HK.out V2 (mem_then HBZ.out HBV2.out)).2.2.1.2).src
      have HSRC := Lib.hid hsrc
      have HNEWS : Hid (∀ j, j < p.tasks.length * 8 → V2.cell? ⟨tb, tf + j, none⟩ = news[j]?) := hnews
      have HONES := Lib.hid hones
      have HX20 := Lib.hid (mem_keep hXV1 hbV2)
      obtain ⟨hq2, _⟩ := HK.out V2 (mem_then HBZ.out HBV2.out)
      obtain ⟨u0, u1⟩ := mem_two hq2
      obtain ⟨ti, hti, hy0, hy1, hy2⟩ := info_parts tsk_info
      have htl8 : p.tasks.length ≤ 8 := HLE.out.2.1
      clear hx17 hx1 hx2 hsp hcn hRAB hBZ hq1 hbV1 hXV1 hbV2 hXV2 hsrc hnews hones hq2
      go_upto_region 16 with (at_builtin; refine wpList_append_src _ rfl (.tmp 67) (.tmp 69) 23 rfl V1.heap.size 52 ti _ 8 128 Tryd.underlying23 hti hy0 hy1 hy2 rfl (by decide) (.slice (some ⟨V1.heap.size, 0, none⟩) 0 0) 0 [] rfl HMADE.out (some ⟨tb, tf, none⟩) p.tasks.length tc news rfl HSRC.out HONES.out (by unfold maxLen; omega) (by omega) (by have := HV12.out; omega) ?_)
      clear x0 x1 u0 u1 hV1 hV2
      intro v5 w5 hown5 hg5 hpl5
      have hown5 : w5.ownsRow V1.heap.size 52 8 v5 p.tasks.length news := by simpa using hown5
      rcases ownsRow_form hown5 with ⟨_, h0⟩ | ⟨gb, cap, rfl, hgb, hgl, hcap⟩
      · omega
      have hB5 : Below Z.heap.size Z w5 := HBV2.out.grown hg5 (by have := HV12.out; omega) (fun k hk => by have h9 := HV12.out; have hk : V1.heap.size = k := Option.some.inj hk; omega)
      have m1 : w5.heap[Z.heap.size]? = some (prgObj p sa sc (some ⟨tb, tf, none⟩) tc) := (hg5.block _ (mem_lt HX20.out) (fun e => by have h9 := HV12.out; have e : Z.heap.size = V1.heap.size := Option.some.inj e; omega)).trans HX20.out
      have hgz : Z.heap.size < gb := by have := HV12.out; omega
      obtain ⟨w6, h6⟩ : ∃ w6 : World, w5.setCell ⟨Z.heap.size, 1, none⟩ (.slice (some ⟨gb, 0, none⟩) p.tasks.length cap) = w6 := ⟨_, rfl⟩
      have HM6 : Hid (w6.heap[Z.heap.size]? = some (.cells #[.slice sa p.shared.length sc, .slice (some ⟨gb, 0, none⟩) p.tasks.length cap] 25)) := by show _ = _; rw [← h6, mem_set m1]; rfl
      have HOWN6 : Hid (w6.ownsRow V1.heap.size 52 8 (.slice (some ⟨gb, 0, none⟩) p.tasks.length cap) p.tasks.length news) := by
        show World.ownsRow _ _ _ _ _ _ _
        rw [← h6]
        exact own_keep hown5 (fun k hk _ => Below.heap_setCell _ _ _ _ (by have hk : gb = k := Option.some.inj hk; show k ≠ Z.heap.size; omega))
      have HB6 : Hid (Below Z.heap.size Z w6) := by show Below _ _ _; rw [← h6]; exact hB5.setCell (p := ⟨Z.heap.size, 1, none⟩) (Nat.le_refl _) _
      have HGZ := Lib.hid hgz
      have z1 := mem_free m1 1
      have y1 : w5.cell? ⟨Z.heap.size, 1, none⟩ = some (.slice (some ⟨tb, tf, none⟩) p.tasks.length tc) := mem_cell m1 1
      have HGL : Hid (gb < w6.heap.size) := by show _ < _; rw [← h6]; simpa using hgl
      clear hown5 hg5 hpl5 hB5 m1 hgz hgl
      go_upto_region 16 with fail
      clear z1 y1
      try rw [h6]
      clear h6
      have hA2 := HA2.out
      unfold lowA at hA2
      have hD0 : Below w6.heap.size w6 (World.drew w6) := (Below.refl _ _).drew
      refine wp_region_z 14 (S := fun w' => Below w6.heap.size w6 w') (by kernel_rfl) hD0 (fun hHeld => ?_)
      generalize hwd : World.drew w6 = v1 at hHeld hD0 ⊢
      clear hwd hD0
      have HH := Lib.hid hHeld
      refine wpAnyZ_take (i := 0) (v := .pointer (some ⟨Z.heap.size, 1, none⟩)) rfl (by kernel_rfl) (by kernel_rfl) (by kernel_rfl) (by kernel_rfl) (fun _ _ _ h => h) (Or.inl ⟨by rfl, ?_⟩) (by assumption) ?_
      · intro w' hSw; go_simp
      (try simp only [Act.put, List.getElem_toArray, List.getElem_cons_zero, List.setIfInBounds_toArray, List.set_cons_zero, List.set_cons_succ])
      refine wpAnyZ_take (i := 1) (v := .slice (some ⟨gb, 0, none⟩) p.tasks.length cap) rfl (by kernel_rfl) (by kernel_rfl) (by kernel_rfl) (by kernel_rfl) (fun _ _ _ h => h) (Or.inl ⟨by rfl, ?_⟩) (by assumption) ?_
      · intro w' hSw; obtain ⟨z0, z1⟩ := mem_two (mem_keep HM6.out hSw); go_simp
      (try simp only [Act.put, List.getElem_toArray, List.getElem_cons_zero, List.getElem_cons_succ, List.setIfInBounds_toArray, List.set_cons_zero, List.set_cons_succ])
      refine wpAnyZ_take (i := 2) (v := .int .i64 (i : Int)) rfl (by kernel_rfl) (by kernel_rfl) (by kernel_rfl) (by kernel_rfl) (fun _ _ _ h => h) (Or.inl ⟨by rfl, ?_⟩) (by assumption) ?_
      · intro w' hSw; go_simp
      (try simp only [Act.put, List.getElem_toArray, List.getElem_cons_zero, List.getElem_cons_succ, List.setIfInBounds_toArray, List.set_cons_zero, List.set_cons_succ])
      refine wpAnyZ_take (i := 3) (v := .agg #[.int .u8 1, .int .i64 cn, .string ⟨#[]⟩, .slice none 0 0]) rfl (by kernel_rfl) (by kernel_rfl) (by kernel_rfl) (by kernel_rfl) (fun _ _ _ h => h) (Or.inl ⟨by rfl, ?_⟩) (by assumption) ?_
      · intro w' hSw; obtain ⟨z0, z1, z2, z3⟩ := node_cells (mem_keep HZ17.out (mem_then HB6.out hSw)); go_simp
      (try simp only [Act.put, List.getElem_toArray, List.getElem_cons_zero, List.getElem_cons_succ, List.setIfInBounds_toArray, List.set_cons_zero, List.set_cons_succ])
      refine wpAnyZ_take (i := 4) (v := .agg #[.int .u8 TA.kind, .int .i64 TA.num, .string TA.name, .slice aA TA.len cA]) rfl (by kernel_rfl) (by kernel_rfl) (by kernel_rfl) (by kernel_rfl) (fun _ _ _ h => h) (Or.inl ⟨by rfl, ?_⟩) (by assumption) ?_
      · intro w' hSw; obtain ⟨z0, z1, z2, z3⟩ := node_cells (mem_keep HZ1.out (mem_then HB6.out hSw)); go_simp
      (try simp only [Act.put, List.getElem_toArray, List.getElem_cons_zero, List.getElem_cons_succ, List.setIfInBounds_toArray, List.set_cons_zero, List.set_cons_succ])
      refine wpAnyZ_take (i := 5) (v := .agg #[.int .u8 TB.kind, .int .i64 TB.num, .string TB.name, .slice aB TB.len cB]) rfl (by kernel_rfl) (by kernel_rfl) (by kernel_rfl) (by kernel_rfl) (fun _ _ _ h => h) (Or.inl ⟨by rfl, ?_⟩) (by assumption) ?_
      · intro w' hSw; obtain ⟨z0, z1, z2, z3⟩ := node_cells (mem_keep HZ2.out (mem_then HB6.out hSw)); go_simp
      (try simp only [Act.put, List.getElem_toArray, List.getElem_cons_zero, List.getElem_cons_succ, List.setIfInBounds_toArray, List.set_cons_zero, List.set_cons_succ])
      refine wpAnyZ_take (i := 9) (v := .slice q.ka t.body.len q.kc) rfl (by kernel_rfl) (by kernel_rfl) (by kernel_rfl) (by kernel_rfl) (fun _ _ _ h => h) (Or.inl ⟨by rfl, ?_⟩) (by assumption) ?_
      · intro w' hSw; go_simp
      (try simp only [Act.put, List.getElem_toArray, List.getElem_cons_zero, List.getElem_cons_succ, List.setIfInBounds_toArray, List.set_cons_zero, List.set_cons_succ])
      refine wpAnyZ_take (i := 10) (v := .int .i64 (k : Int)) rfl (by kernel_rfl) (by kernel_rfl) (by kernel_rfl) (by kernel_rfl) (fun _ _ _ h => h) (Or.inl ⟨by rfl, ?_⟩) (by assumption) ?_
      · intro w' hSw; go_simp
      (try simp only [Act.put, List.getElem_toArray, List.getElem_cons_zero, List.getElem_cons_succ, List.setIfInBounds_toArray, List.set_cons_zero, List.set_cons_succ])
      refine wpAnyZ_take (i := 11) (v := .slice A2 (t.body.len - k) (q.kc - k)) rfl (by kernel_rfl) (by kernel_rfl) (by kernel_rfl) (by kernel_rfl) (fun _ _ _ h => h) (Or.inl ⟨by rfl, ?_⟩) (by assumption) ?_
      · intro w' hSw; go_simp
      (try simp only [Act.put, List.getElem_toArray, List.getElem_cons_zero, List.getElem_cons_succ, List.setIfInBounds_toArray, List.set_cons_zero, List.set_cons_succ])
      refine wpAnyZ_ready (rs := [6]) (by kernel_rfl) (by simp) (AllReadyZ.cons rfl (fun K hK => ?_) AllReadyZ.nil)
      go_simp
      obtain ⟨v6, hv6⟩ : ∃ V : World, v1.alloc (.cells #[.int .u8 1, .int .i64 cn, .string ⟨#[]⟩, .slice none 0 0, .int .u8 TA.kind, .int .i64 TA.num, .string TA.name, .slice aA TA.len cA, .int .u8 TB.kind, .int .i64 TB.num, .string TB.name, .slice aB TB.len cB] 50) = V := ⟨_, rfl⟩
      rw [hv6]
      have hb6 : Below v1.heap.size v1 v6 := by rw [← hv6]; exact mem_alloc _ _
      have HX6 : Hid (v6.heap[v1.heap.size]? = some (.cells #[.int .u8 1, .int .i64 cn, .string ⟨#[]⟩, .slice none 0 0, .int .u8 TA.kind, .int .i64 TA.num, .string TA.name, .slice aA TA.len cA, .int .u8 TB.kind, .int .i64 TB.num, .string TB.name, .slice aB TB.len cB] 50)) := by show _ = _; rw [← hv6]; exact mem_new _ _
      have HBV6 := Lib.hid (mem_then HH.out hb6)
      clear hv6 hb6
      refine hK.out _ _ (HBV6.out) (fun hHeld => ?_)
      clear hK K
      rename_i hOld
      clear hOld
      (try simp only [Act.put, List.getElem_toArray, List.getElem_cons_zero, List.getElem_cons_succ, List.setIfInBounds_toArray, List.set_cons_zero, List.set_cons_succ])
      refine wpAnyZ_take (i := 7) (v := .agg #[.int .u8 41, .int .i64 0, .string ⟨#[]⟩, .slice (some ⟨v1.heap.size, 0, none⟩) 3 3]) rfl (by kernel_rfl) (by kernel_rfl) (by kernel_rfl) (by kernel_rfl) (fun _ _ _ h => h) (Or.inl ⟨by rfl, ?_⟩) (by assumption) ?_
      · intro w' hSw; go_simp
      (try simp only [Act.put, List.getElem_toArray, List.getElem_cons_zero, List.getElem_cons_succ, List.setIfInBounds_toArray, List.set_cons_zero, List.set_cons_succ])
      refine wpAnyZ_ready (rs := [8]) (by kernel_rfl) (by simp) (AllReadyZ.cons rfl (fun K hK => ?_) AllReadyZ.nil)
      go_simp
      obtain ⟨v8, hv8⟩ : ∃ V : World, v6.alloc (nodeObj (.int .u8 41) (.int .i64 0) (.string ⟨#[]⟩) (.slice (some ⟨v1.heap.size, 0, none⟩) 3 3)) = V := ⟨_, rfl⟩
      rw [hv8]
      have hb8 : Below v6.heap.size v6 v8 := by rw [← hv8]; exact mem_alloc _ _
      have HX8 : Hid (v8.heap[v6.heap.size]? = some (nodeObj (.int .u8 41) (.int .i64 0) (.string ⟨#[]⟩) (.slice (some ⟨v1.heap.size, 0, none⟩) 3 3))) := by show _ = _; rw [← hv8]; exact mem_new _ _
      have HX68 := Lib.hid (mem_keep HX6.out hb8)
      have HBV8 := Lib.hid (mem_then HBV6.out hb8)
      have HS68 : Hid (w6.heap.size ≤ v1.heap.size ∧ v1.heap.size < v6.heap.size) := ⟨HH.out.size, mem_lt HX6.out⟩
      clear hv8 hb8
      refine hK.out _ _ (HBV8.out) (fun hHeld => ?_)
      clear hK K
      rename_i hOld
      clear hOld
      (try simp only [Act.put, List.getElem_toArray, List.getElem_cons_zero, List.getElem_cons_succ, List.setIfInBounds_toArray, List.set_cons_zero, List.set_cons_succ])
      obtain ⟨y, hys, hyr⟩ := rest_src (HIN0.out.below ((HK.out Z HBZ.out).2.2.2.2.2.2)).body hkl hcap0
      rw [HA2.out] at hys
      have HYS := Lib.hid (Src.keep hys (mem_then HB6.out HBV8.out))
      have HYR := Lib.hid hyr
      have HOW8 := Lib.hid (own_one (N := w6.heap.size) HX8.out (by have := HS68.out; omega))
      clear hys hyr
      refine wpAnyZ_ready (rs := [12]) (by kernel_rfl) (by simp) (AllReadyZ.cons rfl (fun K hK => ?_) AllReadyZ.nil)
      refine step_append_src _ rfl (.tmp 80) (.tmp 83) 48 rfl w6.heap.size 50 i0 _ 4 56 Tryd.underlying48 hi0 hz0 hz1 hz2 rfl (by decide) (.slice (some ⟨v6.heap.size, 0, none⟩) 1 1) 1 [.int .u8 41, .int .i64 0, .string ⟨#[]⟩, .slice (some ⟨v1.heap.size, 0, none⟩) 3 3] (by simp [Act.eval]) HOW8.out A2 (t.body.len - k) (q.kc - k) (rowsTo (fun i => t.body.kid (k + i)) y (t.body.len - k)) (by simp [Act.eval]) HYS.out (rowsTo_ones _) (by unfold maxLen; omega) (by omega) HBV8.out.size ?_
      intro r9 w12 hown hgrow hplace
      obtain ⟨ra9, rc9, rfl⟩ := own_val hown
      have hN9 : NRow w6.heap.size (fun k => k ≠ gb) w12 (.slice ra9 (1 + (t.body.len - k)) rc9) ([(splitT t.body k truth).kid 0] ++ (List.range (t.body.len - k)).map (fun i => t.body.kid (k + i))) (fun i => if i < 1 then (some ⟨v1.heap.size, 0, none⟩, 3) else y (i - 1)) := by
        have hgl := HGL.out
        have hs8 := HS68.out
        have hone : NRow w6.heap.size (fun k => k ≠ gb) v8 (.slice (some ⟨v6.heap.size, 0, none⟩) 1 1) [(splitT t.body k truth).kid 0] (fun _ => (some ⟨v1.heap.size, 0, none⟩, 3)) := by
          rw [HSP.out]
          refine ⟨HOW8.out, fun i hi => ?_⟩
          have hi1 : i < 1 := hi
          obtain rfl : i = 0 := by omega
          obtain ⟨hrA, hrB⟩ := HRAB.out Z HBZ.out
          have hA := hrA.old (mem_then HB6.out HBV8.out)
          have hB := hrB.old (mem_then HB6.out HBV8.out)
          have hgz := HGZ.out
          refine ifT_rep HCN.out HX68.out ⟨by omega, fun e => by have e : v6.heap.size = v1.heap.size := Option.some.inj e; omega⟩ (hA.mono (fun k hk => ⟨by omega, fun e => ?_⟩)) (hB.mono (fun k hk => ⟨by omega, fun e => ?_⟩))
          · have e : v6.heap.size = k := Option.some.inj e
            have := HB6.out.size
            omega
          · have e : v6.heap.size = k := Option.some.inj e
            have := HB6.out.size
            omega
        have hml : ((List.range (t.body.len - k)).map (fun i => t.body.kid (k + i))).length = t.body.len - k := by simp
        have hp := hone.push (V := v8) (m := (List.range (t.body.len - k)).map (fun i => t.body.kid (k + i))) (y := y) (Below.refl _ _) (fun j hj => ?_) hgrow hplace ?_
        · exact hp
        · rw [hml] at hj
          rw [getD_map hj]
          have hr6 := (HYR.out j hj).old (mem_then HB6.out HBV8.out)
          have hgz := HGZ.out
          refine hr6.mono (fun k hk => ⟨by omega, fun e => ?_⟩)
          have e : v6.heap.size = k := Option.some.inj e
          have := HB6.out.size
          omega
        · rw [hml, HSP.out, rowsTo_kids (f := fun i => ((List.range (t.body.len - k)).map (fun i => t.body.kid (k + i))).getD i noT) (g := fun i => t.body.kid (k + i)) (fun i hi => getD_map hi)]
          exact hown
      have hgl := HGL.out
      have hB12 : Below w6.heap.size w6 w12 := HBV8.out.grown hgrow HBV8.out.size (fun b hb => by have := (own_lt HOW8.out hb).1; omega)
      have HB12 := Lib.hid hB12
      have HN12 := Lib.hid hN9
      have HOWN12 := Lib.hid (own_below HOWN6.out hB12)
      obtain ⟨u0, e0, f0⟩ := own_at8 HOWN12.out (j := i * 8 + 4) (by omega)
      obtain ⟨u1, e1, f1⟩ := own_at8 HOWN12.out (j := i * 8 + 4 + 1) (by omega)
      obtain ⟨u2, e2, f2⟩ := own_at8 HOWN12.out (j := i * 8 + 4 + 2) (by omega)
      obtain ⟨u3, e3, f3⟩ := own_at8 HOWN12.out (j := i * 8 + 4 + 3) (by omega)
      clear hN9 hown hgrow hplace hB12
      refine hK.out _ _ (HB12.out) (fun hHeld => ?_)
      clear hK K
      rename_i hOld
      clear hOld
      (try simp only [Act.put, List.getElem_toArray, List.getElem_cons_zero, List.getElem_cons_succ, List.setIfInBounds_toArray, List.set_cons_zero, List.set_cons_succ])
      refine wpAnyZ_take (i := 13) (v := .agg #[.int .u8 47, .int .i64 0, .string ⟨#[]⟩, .slice ra9 (1 + (t.body.len - k)) rc9]) rfl (by kernel_rfl) (by kernel_rfl) (by kernel_rfl) (by kernel_rfl) (fun _ _ _ h => h) (Or.inl ⟨by rfl, ?_⟩) (by assumption) ?_
      · intro w' hSw; go_simp
      (try simp only [Act.put, List.getElem_toArray, List.getElem_cons_zero, List.getElem_cons_succ, List.setIfInBounds_toArray, List.set_cons_zero, List.set_cons_succ])
      refine wpAnyZ_ready (rs := [14]) (by kernel_rfl) (by simp) (AllReadyZ.last rfl (by decide) (fun K hK => ?_) AllReadyZ.nil)
      go_simp
      refine hK.out _ _ ?_
      clear hK K
      (try simp only [Act.put, List.getElem_toArray, List.getElem_cons_zero, List.getElem_cons_succ, List.setIfInBounds_toArray, List.set_cons_zero, List.set_cons_succ])
      refine wpAnyZ_ready (rs := [15]) (by kernel_rfl) (by simp) (AllReadyZ.last rfl (by decide) (fun K hK => ?_) AllReadyZ.nil)
      go_simp
      refine hK.out _ _ ?_
      clear hK K
      (try simp only [Act.put, List.getElem_toArray, List.getElem_cons_zero, List.getElem_cons_succ, List.setIfInBounds_toArray, List.set_cons_zero, List.set_cons_succ])
      obtain ⟨W7, hW7⟩ : ∃ W7 : World, W7 = set4at w12 gb (i * 8 + 4) (.int .u8 47) (.int .i64 0) (.string ⟨#[]⟩) (.slice ra9 (1 + (t.body.len - k)) rc9) := ⟨_, rfl⟩
      have HW7 := Lib.hid hW7
      unfold set4at at hW7
      refine wpAnyZ_ready (rs := [16]) (by kernel_rfl) (by simp) (AllReadyZ.last rfl (by decide) (fun K hK => ?_) AllReadyZ.nil)
      go_simp
      refine hK.out _ _ ?_
      clear hK K
      (try simp only [Act.put, List.getElem_toArray, List.getElem_cons_zero, List.getElem_cons_succ, List.setIfInBounds_toArray, List.set_cons_zero, List.set_cons_succ])
      try rw [← hW7]
      clear u0 e0 f0 u1 e1 f1 u2 e2 f2 u3 e3 f3 hHeld hA2
      refine wpAnyZ_done (by kernel_rfl) ?_ _
      clear hW7
      have HB7 : Hid (Below Z.heap.size Z W7) := by show Below _ _ _; rw [HW7.out]; exact set4at_below (mem_then HB6.out HB12.out) (by have := HGZ.out; omega)
      have HFAR7 : Hid (∀ k, k ≠ gb → W7.heap[k]? = w12.heap[k]?) := fun k hk => by rw [HW7.out]; exact set4at_far hk
      have hx7 : W7.heap[Z.heap.size]? = some (.cells #[.slice sa p.shared.length sc, .slice (some ⟨gb, 0, none⟩) p.tasks.length cap] 25) := (HFAR7.out _ (by have := HGZ.out; omega)).trans (mem_keep HM6.out HB12.out)
      obtain ⟨cur7, hcur7⟩ := own_new HOWN12.out rfl
      have hn7 := HN12.out.stay (w' := W7) (b := gb) (own_other HN12.out.ro hcur7 (by decide)) (fun k hk => hk) HFAR7.out
      have hrep7 : Rep W7 (splitT t.body k truth) ra9 := by rw [splitT_list t.body k truth hkl]; exact hn7.rep
      have hnz : ∀ j, j < p.tasks.length * 8 → Z.cell? ⟨tb, tf + j, none⟩ = news[j]? := fun j hj => by
        rw [← HNEWS.out j hj]
        exact (HBV2.out.cell (p := ⟨tb, tf + j, none⟩) (by have h1 := HTB.out; have h2 := HBZ.out.size; show tb < _; omega)).symm
      have hw7' : W7 = set4at w12 gb (i * 8 + 4) (.int .u8 (splitT t.body k truth).kind) (.int .i64 (splitT t.body k truth).num) (.string (splitT t.body k truth).name) (.slice ra9 (splitT t.body k truth).len rc9) := HW7.out
      have hpq := tasks_body (B := splitT t.body k truth) (a3 := ra9) (c3 := rc9) (HK.out Z HBZ.out).2.2.1 hil2 HOWN12.out hnz hw7' HB7.out hrep7
      obtain ⟨Q, hQ⟩ : ∃ Q, bodyP p i (splitT t.body k truth) = Q := ⟨_, rfl⟩
      have hQt : Q.tasks.length = p.tasks.length := by rw [← hQ]; exact bodyP_len
      have hQs : Q.shared.length = p.shared.length := by rw [← hQ]; rfl
      have hxq : W7.heap[Z.heap.size]? = some (prgObj Q sa sc (some ⟨gb, 0, none⟩) cap) := by
        show _ = some (Obj.cells #[.slice sa Q.shared.length sc, .slice (some ⟨gb, 0, none⟩) Q.tasks.length cap] 25)
        rw [hQt, hQs]
        exact hx7
      rw [hQ] at hpq
      have HKQ : Hid (∀ w', Below W7.heap.size W7 w' → w'.heap[w.heap.size]? = some (prgObj p sa sc (some ⟨tb, tf, none⟩) tc) ∧ w'.heap[W.heap.size]? = some (memObj M ma mac ms msc) ∧ w'.heap[Z.heap.size]? = some (prgObj Q sa sc (some ⟨gb, 0, none⟩) cap) ∧ PrgAt w' p sa (some ⟨tb, tf, none⟩) ∧ PrgAt w' Q sa (some ⟨gb, 0, none⟩) ∧ MemAt w' M ma ms ∧ WordsAt w' ia inp ∧ SignsIn w' ∧ Below w.heap.size w w') := fun w' hw => by
        obtain ⟨h1, h2, h3, h4, h5, h6, h7⟩ := HK.out w' (mem_then HBZ.out (mem_then HB7.out hw))
        exact ⟨h1, h2, mem_keep hxq hw, h3, hpq.below hw, h4, h5, h6, h7⟩
      have HSJ : Hid (okP Q = true → jobP Q (i : Int) M inp 3001 = ⟨(jobP p (i : Int) M inp 3000).mem, (jobP p (i : Int) M inp 3000).out, (jobP p (i : Int) M inp 3000).rd, (jobP p (i : Int) M inp 3000).st + 1, (jobP p (i : Int) M inp 3000).err⟩) := fun hq => by
        have h := split_job (inp := inp) (k := k) (truth := truth) HRUN.out (by rw [Int.toNat_natCast, HTD.out]; exact hkl) (by
          rw [Int.toNat_natCast, HTD.out]
          have hv := tskOk_body HTOK.out
          have hb := (vld_parts hv).1
          unfold Fm.belongs at hb
          rw [if_neg (by decide), if_neg (by decide), if_neg (by decide)] at hb
          exact of_decide_eq_true hb) (by rw [Int.toNat_natCast, HTD.out, hQ]; exact hq)
        rw [Int.toNat_natCast, HTD.out, hQ] at h
        exact h
      have HFL := Lib.hid (fuel_le (inp := inp) HRUN.out)
      have hqtl : Q.tasks.length ≤ 9223372036854775807 := hpq.2.1
      have hqsl : Q.shared.length ≤ 9223372036854775807 := hpq.1.1
      obtain ⟨_, _, k3, _, k5, _, _, k8, _⟩ := HKQ.out W7 (Below.refl _ _)
      obtain ⟨x0, x1⟩ := mem_two k3
      have HOQ := Lib.hid (ok15_any Q W7 sa (some ⟨gb, 0, none⟩) sc cap k5 k8)
      clear hx7 hcur7 hn7 hrep7 hnz hw7' hpq hQ hQt hQs hxq k3 k5 k8
      go_wp2_with fail
      clear x0 x1
      refine HOQ.out.mono ?_
      rintro e w8 ⟨rfl, hB8⟩
      have HB8 := Lib.hid hB8
      clear HOQ hB8
      cases hok : okP Q with
      | false =>
        clear hok
        go_wp2_with fail
        go_ret
        exact ⟨rfl, (HKQ.out w8 HB8.out).2.2.2.2.2.2.2.2⟩
      | true =>
      have hsj := HSJ.out hok
      obtain ⟨k1, k2, k3, k4, k5, k6, k7, k8, _⟩ := HKQ.out w8 HB8.out
      obtain ⟨x0, x1⟩ := mem_two k3
      obtain ⟨y0, y1⟩ := mem_two k2
      have HGQ := Lib.hid (great16_any Q M inp.length w8 sa (some ⟨gb, 0, none⟩) sc cap ma ms mac msc ia ic k5 k6 hil)
      clear hok HSJ k1 k2 k3 k4 k5 k6 k7 k8
      go_wp2_with fail
      clear x0 x1 y0 y1
      refine HGQ.out.mono ?_
      rintro e E0 ⟨rfl, hB9⟩
      have HB9 := Lib.hid (mem_then HB8.out hB9)
      clear HGQ hB9
      cases hbig : bigP Q M inp.length with
      | true =>
        have hbn3 := bigN_t hbig
        clear hbig
        go_wp2_with fail
        go_ret
        exact ⟨rfl, (HKQ.out E0 HB9.out).2.2.2.2.2.2.2.2⟩
      | false =>
      have hbn3 := bigN_f hbig
      clear hbig
      obtain ⟨R, hR⟩ : ∃ R, jobP p (i : Int) M inp 3000 = R := ⟨_, rfl⟩
      obtain ⟨S, hS⟩ : ∃ S, jobP Q (i : Int) M inp 3001 = S := ⟨_, rfl⟩
      rw [hS, hR] at hsj
      have hst : R.st ≤ 3000 := by rw [← hR]; exact HFL.out
      have HSM : Hid (sameP R S false = true) := by show _ = _; rw [hsj]; simp [sameP]
      have hss : (S.st : Int) = (R.st : Int) + 1 := by rw [hsj]; simp
      have q1 : ((S.st : Int) == (R.st : Int) + 1) = true := by simp [hss]
      have J1 : Hid (∀ w', Below E0.heap.size E0 w' → Calls Tryd.prog 14 #[p.val sa sc (some ⟨tb, tf, none⟩) tc, .int .i64 (i : Int), M.val ma mac ms msc, .slice ia inp.length ic, .int .i64 3000] w' (JobQ R w')) := fun w' hw => by
        obtain ⟨_, _, _, k4, _, k6, k7, k8, _⟩ := HKQ.out w' (mem_then HB9.out hw)
        rw [← hR]
        exact job_any p (i : Int) M inp 3000 w' sa (some ⟨tb, tf, none⟩) sc tc ma ms mac msc ia ic k4 k6 k7 k8 HT.out (by decide) (by omega)
      have J2 : Hid (∀ w', Below E0.heap.size E0 w' → Calls Tryd.prog 14 #[Q.val sa sc (some ⟨gb, 0, none⟩) cap, .int .i64 (i : Int), M.val ma mac ms msc, .slice ia inp.length ic, .int .i64 3001] w' (JobQ S w')) := fun w' hw => by
        obtain ⟨_, _, _, _, k5, k6, k7, k8, _⟩ := HKQ.out w' (mem_then HB9.out hw)
        rw [← hS]
        exact job_any Q (i : Int) M inp 3001 w' sa (some ⟨gb, 0, none⟩) sc cap ma ms mac msc ia ic k5 k6 k7 k8 HT.out (by decide) (by omega)
      clear hsj hR hS hss
      go_upto_region 19 with fail
      go_cut [21, 22] (fun s1 s2 w' => ∃ b1 b2 aa ac ra rc oa oc ba bc rb rd ob od, s1 = .pointer (some ⟨b1, 0, none⟩) ∧ s2 = .pointer (some ⟨b2, 0, none⟩) ∧ w'.heap[b1]? = some (Res.obj R aa ac ra rc oa oc) ∧ w'.heap[b2]? = some (Res.obj S ba bc rb rd ob od) ∧ ResAt w' R aa ra oa ∧ ResAt w' S ba rb ob ∧ Below E0.heap.size E0 w')
      case first =>
        have hD0 : Below E0.heap.size E0 (World.drew E0) := (Below.refl _ _).drew
        refine wp_region_held_drew (S := fun w' => Below E0.heap.size E0 w') (by kernel_rfl) hD0 (fun hHeld => ?_)
        generalize hwd : World.drew E0 = v1 at hHeld hD0 ⊢
        clear hwd hD0
        have HHV := Lib.hid hHeld
        refine wpAnyH_take (i := 0) (v := p.val sa sc (some ⟨tb, tf, none⟩) tc) rfl (by kernel_rfl) (by kernel_rfl) (by kernel_rfl) (fun _ _ _ h => h) (Or.inl ⟨by rfl, ?_⟩) (by assumption) ?_
        · intro w' hSw; obtain ⟨z0, z1⟩ := mem_two (HKQ.out _ (mem_then HB9.out hSw)).1; go_simp
        (try simp only [Act.put, List.getElem_toArray, List.getElem_cons_zero, List.setIfInBounds_toArray, List.set_cons_zero, List.set_cons_succ])
        refine wpAnyH_take (i := 1) (v := .int .i64 (i : Int)) rfl (by kernel_rfl) (by kernel_rfl) (by kernel_rfl) (fun _ _ _ h => h) (Or.inl ⟨by rfl, ?_⟩) (by assumption) ?_
        · intro w' hSw; go_simp
        (try simp only [Act.put, List.getElem_toArray, List.getElem_cons_zero, List.getElem_cons_succ, List.setIfInBounds_toArray, List.set_cons_zero, List.set_cons_succ])
        refine wpAnyH_take (i := 2) (v := M.val ma mac ms msc) rfl (by kernel_rfl) (by kernel_rfl) (by kernel_rfl) (fun _ _ _ h => h) (Or.inl ⟨by rfl, ?_⟩) (by assumption) ?_
        · intro w' hSw; obtain ⟨z0, z1⟩ := mem_two (HKQ.out _ (mem_then HB9.out hSw)).2.1; go_simp
        (try simp only [Act.put, List.getElem_toArray, List.getElem_cons_zero, List.getElem_cons_succ, List.setIfInBounds_toArray, List.set_cons_zero, List.set_cons_succ])
        refine wpAnyH_take (i := 3) (v := .slice ia inp.length ic) rfl (by kernel_rfl) (by kernel_rfl) (by kernel_rfl) (fun _ _ _ h => h) (Or.inl ⟨by rfl, ?_⟩) (by assumption) ?_
        · intro w' hSw; go_simp
        (try simp only [Act.put, List.getElem_toArray, List.getElem_cons_zero, List.getElem_cons_succ, List.setIfInBounds_toArray, List.set_cons_zero, List.set_cons_succ])
        refine wpAnyH_take (i := 5) (v := Q.val sa sc (some ⟨gb, 0, none⟩) cap) rfl (by kernel_rfl) (by kernel_rfl) (by kernel_rfl) (fun _ _ _ h => h) (Or.inl ⟨by rfl, ?_⟩) (by assumption) ?_
        · intro w' hSw; obtain ⟨z0, z1⟩ := mem_two (HKQ.out _ (mem_then HB9.out hSw)).2.2.1; go_simp
        (try simp only [Act.put, List.getElem_toArray, List.getElem_cons_zero, List.getElem_cons_succ, List.setIfInBounds_toArray, List.set_cons_zero, List.set_cons_succ])
        refine wpAnyH_take (i := 6) (v := .int .i64 (i : Int)) rfl (by kernel_rfl) (by kernel_rfl) (by kernel_rfl) (fun _ _ _ h => h) (Or.inl ⟨by rfl, ?_⟩) (by assumption) ?_
        · intro w' hSw; go_simp
        (try simp only [Act.put, List.getElem_toArray, List.getElem_cons_zero, List.getElem_cons_succ, List.setIfInBounds_toArray, List.set_cons_zero, List.set_cons_succ])
        refine wpAnyH_take (i := 7) (v := M.val ma mac ms msc) rfl (by kernel_rfl) (by kernel_rfl) (by kernel_rfl) (fun _ _ _ h => h) (Or.inl ⟨by rfl, ?_⟩) (by assumption) ?_
        · intro w' hSw; obtain ⟨z0, z1⟩ := mem_two (HKQ.out _ (mem_then HB9.out hSw)).2.1; go_simp
        (try simp only [Act.put, List.getElem_toArray, List.getElem_cons_zero, List.getElem_cons_succ, List.setIfInBounds_toArray, List.set_cons_zero, List.set_cons_succ])
        refine wpAnyH_take (i := 8) (v := .slice ia inp.length ic) rfl (by kernel_rfl) (by kernel_rfl) (by kernel_rfl) (fun _ _ _ h => h) (Or.inl ⟨by rfl, ?_⟩) (by assumption) ?_
        · intro w' hSw; go_simp
        (try simp only [Act.put, List.getElem_toArray, List.getElem_cons_zero, List.getElem_cons_succ, List.setIfInBounds_toArray, List.set_cons_zero, List.set_cons_succ])
        refine wpAnyH_ready (rs := [4, 10, 11]) (by kernel_rfl) (by simp) (AllReadyH.cons rfl (fun K hK => ?_) (AllReadyH.cons rfl (fun K hK => ?_) (AllReadyH.cons rfl (fun K hK => ?_) AllReadyH.nil)))
        · go_simp
          refine (J1.out v1 HHV.out).mono ?_
          rintro e w_1 ⟨aa, ac, ara, arc, aoa, aoc, rfl, hra, hB_1, _, hty⟩
          have HB_1 := Lib.hid (mem_then HHV.out hB_1)
          have HS4_1 := Lib.hid (And.intro hra hty)
          clear hra hty hB_1
          refine hK.out _ _ (HB_1.out) (fun hHeld => ?_)
          clear hK K
          rename_i hOld
          clear hOld
          (try simp only [Act.put, List.getElem_toArray, List.getElem_cons_zero, List.getElem_cons_succ, List.setIfInBounds_toArray, List.set_cons_zero, List.set_cons_succ])
          refine wpAnyH_ready (rs := [9, 10, 11]) (by kernel_rfl) (by simp) (AllReadyH.cons rfl (fun K hK => ?_) (AllReadyH.cons rfl (fun K hK => ?_) (AllReadyH.cons rfl (fun K hK => ?_) AllReadyH.nil)))
          · go_simp
            refine (J2.out w_1 HB_1.out).mono ?_
            rintro e w_2 ⟨ba, bc, bra, brc, boa, boc, rfl, hra, hB_2, _, hty⟩
            have HB_2 := Lib.hid (mem_then HB_1.out hB_2)
            have HS4_2 := Lib.hid (And.intro (ResAt.below HS4_1.out.1 hB_2) (MemTy.below HS4_1.out.2 hB_2))
            have HS9_2 := Lib.hid (And.intro hra hty)
            clear hra hty hB_2
            refine hK.out _ _ (HB_2.out) (fun hHeld => ?_)
            clear hK K
            rename_i hOld
            clear hOld
            (try simp only [Act.put, List.getElem_toArray, List.getElem_cons_zero, List.getElem_cons_succ, List.setIfInBounds_toArray, List.set_cons_zero, List.set_cons_succ])
            refine wpAnyH_ready (rs := [10, 11]) (by kernel_rfl) (by simp) (AllReadyH.cons rfl (fun K hK => ?_) (AllReadyH.cons rfl (fun K hK => ?_) AllReadyH.nil))
            · go_simp
              refine hK.out _ _ (mem_then HB_2.out (mem_alloc _ _)) (fun hHeld => ?_)
              clear hK K
              rename_i hOld
              clear hOld
              (try simp only [Act.put, List.getElem_toArray, List.getElem_cons_zero, List.getElem_cons_succ, List.setIfInBounds_toArray, List.set_cons_zero, List.set_cons_succ])
              have hz_3 : (w_2.alloc zRes).heap[w_2.heap.size]? = some zRes := mem_new _ _
              have hzB_3 := mem_alloc w_2 zRes
              generalize hQ_3 : w_2.alloc zRes = U_3 at hz_3 hzB_3 hHeld ⊢
              clear hQ_3
              have HB_3 := Lib.hid (mem_then HB_2.out hzB_3)
              have HGA : Hid (E0.heap.size ≤ w_2.heap.size) := HB_2.out.size
              have HS4_3 := Lib.hid (And.intro (ResAt.below HS4_2.out.1 hzB_3) (MemTy.below HS4_2.out.2 hzB_3))
              have HS9_3 := Lib.hid (And.intro (ResAt.below HS9_2.out.1 hzB_3) (MemTy.below HS9_2.out.2 hzB_3))
              have HZA3 := Lib.hid hz_3
              clear hz_3 hzB_3
              refine wpAnyH_ready (rs := [11]) (by kernel_rfl) (by simp) (AllReadyH.cons rfl (fun K hK => ?_) AllReadyH.nil)
              go_simp
              refine hK.out _ _ (mem_then HB_3.out (mem_alloc _ _)) (fun hHeld => ?_)
              clear hK K
              rename_i hOld
              clear hOld
              (try simp only [Act.put, List.getElem_toArray, List.getElem_cons_zero, List.getElem_cons_succ, List.setIfInBounds_toArray, List.set_cons_zero, List.set_cons_succ])
              have hz_4 : (U_3.alloc zRes).heap[U_3.heap.size]? = some zRes := mem_new _ _
              have hzB_4 := mem_alloc U_3 zRes
              generalize hQ_4 : U_3.alloc zRes = U_4 at hz_4 hzB_4 hHeld ⊢
              clear hQ_4
              have HB_4 := Lib.hid (mem_then HB_3.out hzB_4)
              have hlo_4 := mem_lt HZA3.out
              have HNE : Hid (w_2.heap.size ≠ U_3.heap.size) := fun e => by omega
              clear hlo_4
              have HGB : Hid (E0.heap.size ≤ U_3.heap.size) := HB_3.out.size
              have HZA4 := Lib.hid (mem_keep HZA3.out hzB_4)
              have HS4_4 := Lib.hid (And.intro (ResAt.below HS4_3.out.1 hzB_4) (MemTy.below HS4_3.out.2 hzB_4))
              have HS9_4 := Lib.hid (And.intro (ResAt.below HS9_3.out.1 hzB_4) (MemTy.below HS9_3.out.2 hzB_4))
              have HZB4 := Lib.hid hz_4
              clear hz_4 hzB_4
              obtain ⟨bA, hbA⟩ : ∃ b, w_2.heap.size = b := ⟨_, rfl⟩
              obtain ⟨bB, hbB⟩ : ∃ b, U_3.heap.size = b := ⟨_, rfl⟩
              have HZA := HZA4
              have HZB := HZB4
              have HSA := HS4_4
              have HSB := HS9_4
              have HBE := HB_4
              rw [hbA] at HZA HNE HGA
              rw [hbB] at HZB HNE HGB
              try rw [hbA]
              try rw [hbB]
              clear hbA hbB
              obtain ⟨EW, hEW⟩ : ∃ E : World, U_4 = E := ⟨_, rfl⟩
              rw [hEW] at HZA HZB HSA HSB HBE hHeld ⊢
              clear hEW
              obtain ⟨y0, y1, y2, y3, y4, y5⟩ := res_cells HZA.out
              have f0 := mem_free HZA.out 0
              have f1 := mem_free HZA.out 1
              have f2 := mem_free HZA.out 2
              have f3 := mem_free HZA.out 3
              have f4 := mem_free HZA.out 4
              have f5 := mem_free HZA.out 5
              obtain ⟨U2, hU2⟩ : ∃ U2 : World, set6 EW bA (.slice aa R.mem.arrays.length ac) (.slice ara R.mem.shared.length arc) (.slice aoa R.out.length aoc) (.int .i64 (R.rd : Int)) (.int .i64 (R.st : Int)) (.int .i64 R.err) = U2 := ⟨_, rfl⟩
              have HFAR2 : Hid (∀ k, k ≠ bA → U2.heap[k]? = EW.heap[k]?) := fun k hk => by rw [← hU2]; exact set6_far hk
              have HA2' : Hid (U2.heap[bA]? = some (Res.obj R aa ac ara arc aoa aoc)) := by show _ = _; rw [← hU2]; exact set6_at HZA.out
              have HZB2 : Hid (U2.heap[bB]? = some zRes) := (HFAR2.out bB (fun e => HNE.out e.symm)).trans HZB.out
              have HBU2 : Hid (Below E0.heap.size E0 U2) := by show Below _ _ _; rw [← hU2]; exact set6_below HBE.out HGA.out
              have HSA2 := Lib.hid (ResAt.stored HZA.out HFAR2.out HSA.out.1 HSA.out.2)
              have HSB2 := Lib.hid (ResAt.stored HZA.out HFAR2.out HSB.out.1 HSB.out.2)
              obtain ⟨p0, p1, p2, p3, p4, p5⟩ := res_cells HZB2.out
              have g0 := mem_free HZB2.out 0
              have g1 := mem_free HZB2.out 1
              have g2 := mem_free HZB2.out 2
              have g3 := mem_free HZB2.out 3
              have g4 := mem_free HZB2.out 4
              have g5 := mem_free HZB2.out 5
              obtain ⟨U3, hU3⟩ : ∃ U3 : World, set6 U2 bB (.slice ba S.mem.arrays.length bc) (.slice bra S.mem.shared.length brc) (.slice boa S.out.length boc) (.int .i64 (S.rd : Int)) (.int .i64 (S.st : Int)) (.int .i64 S.err) = U3 := ⟨_, rfl⟩
              have HFAR3 : Hid (∀ k, k ≠ bB → U3.heap[k]? = U2.heap[k]?) := fun k hk => by rw [← hU3]; exact set6_far hk
              have HB3' : Hid (U3.heap[bB]? = some (Res.obj S ba bc bra brc boa boc)) := by show _ = _; rw [← hU3]; exact set6_at HZB2.out
              have HA3' : Hid (U3.heap[bA]? = some (Res.obj R aa ac ara arc aoa aoc)) := (HFAR3.out bA HNE.out).trans HA2'.out
              have HBU3 : Hid (Below E0.heap.size E0 U3) := by show Below _ _ _; rw [← hU3]; exact set6_below HBU2.out HGB.out
              have HSA3 := Lib.hid (ResAt.stored HZB2.out HFAR3.out HSA2.out.1 HSA2.out.2)
              have HSB3 := Lib.hid (ResAt.stored HZB2.out HFAR3.out HSB2.out.1 HSB2.out.2)
              unfold set6 at hU2 hU3
              refine wpAnyH_ready (rs := [12]) (by kernel_rfl) (by simp) (AllReadyH.cons rfl (fun K hK => ?_) AllReadyH.nil)
              go_simp
              try rw [hU2]
              refine hK.out _ _ (HBU2.out) (fun hHeld => ?_)
              clear hK K
              rename_i hOld
              clear hOld
              (try simp only [Act.put, List.getElem_toArray, List.getElem_cons_zero, List.getElem_cons_succ, List.setIfInBounds_toArray, List.set_cons_zero, List.set_cons_succ])
              refine wpAnyH_ready (rs := [13]) (by kernel_rfl) (by simp) (AllReadyH.cons rfl (fun K hK => ?_) AllReadyH.nil)
              go_simp
              try rw [hU3]
              refine hK.out _ _ (HBU3.out) (fun hHeld => ?_)
              clear hK K
              rename_i hOld
              clear hOld
              (try simp only [Act.put, List.getElem_toArray, List.getElem_cons_zero, List.getElem_cons_succ, List.setIfInBounds_toArray, List.set_cons_zero, List.set_cons_succ])
              clear hHeld y0 y1 y2 y3 y4 y5 f0 f1 f2 f3 f4 f5 p0 p1 p2 p3 p4 p5 g0 g1 g2 g3 g4 g5 hU2 hU3
              refine wpAnyH_done (by kernel_rfl) ?_ _
              go_wp2_with fail
              go_meet
              exact ⟨bA, bB, aa, ac, ara, arc, aoa, aoc, ba, bc, bra, brc, boa, boc, rfl, rfl, HA3'.out, HB3'.out, HSA3.out.1, HSB3.out.1, HBU3.out⟩
            · go_simp
              refine hK.out _ _ (mem_then HB_2.out (mem_alloc _ _)) (fun hHeld => ?_)
              clear hK K
              rename_i hOld
              clear hOld
              (try simp only [Act.put, List.getElem_toArray, List.getElem_cons_zero, List.getElem_cons_succ, List.setIfInBounds_toArray, List.set_cons_zero, List.set_cons_succ])
              have hz_5 : (w_2.alloc zRes).heap[w_2.heap.size]? = some zRes := mem_new _ _
              have hzB_5 := mem_alloc w_2 zRes
              generalize hQ_5 : w_2.alloc zRes = U_5 at hz_5 hzB_5 hHeld ⊢
              clear hQ_5
              have HB_5 := Lib.hid (mem_then HB_2.out hzB_5)
              have HGB : Hid (E0.heap.size ≤ w_2.heap.size) := HB_2.out.size
              have HS4_5 := Lib.hid (And.intro (ResAt.below HS4_2.out.1 hzB_5) (MemTy.below HS4_2.out.2 hzB_5))
              have HS9_5 := Lib.hid (And.intro (ResAt.below HS9_2.out.1 hzB_5) (MemTy.below HS9_2.out.2 hzB_5))
              have HZB5 := Lib.hid hz_5
              clear hz_5 hzB_5
              refine wpAnyH_ready (rs := [10]) (by kernel_rfl) (by simp) (AllReadyH.cons rfl (fun K hK => ?_) AllReadyH.nil)
              go_simp
              refine hK.out _ _ (mem_then HB_5.out (mem_alloc _ _)) (fun hHeld => ?_)
              clear hK K
              rename_i hOld
              clear hOld
              (try simp only [Act.put, List.getElem_toArray, List.getElem_cons_zero, List.getElem_cons_succ, List.setIfInBounds_toArray, List.set_cons_zero, List.set_cons_succ])
              have hz_6 : (U_5.alloc zRes).heap[U_5.heap.size]? = some zRes := mem_new _ _
              have hzB_6 := mem_alloc U_5 zRes
              generalize hQ_6 : U_5.alloc zRes = U_6 at hz_6 hzB_6 hHeld ⊢
              clear hQ_6
              have HB_6 := Lib.hid (mem_then HB_5.out hzB_6)
              have hlo_6 := mem_lt HZB5.out
              have HNE : Hid (U_5.heap.size ≠ w_2.heap.size) := fun e => by omega
              clear hlo_6
              have HGA : Hid (E0.heap.size ≤ U_5.heap.size) := HB_5.out.size
              have HZB6 := Lib.hid (mem_keep HZB5.out hzB_6)
              have HS4_6 := Lib.hid (And.intro (ResAt.below HS4_5.out.1 hzB_6) (MemTy.below HS4_5.out.2 hzB_6))
              have HS9_6 := Lib.hid (And.intro (ResAt.below HS9_5.out.1 hzB_6) (MemTy.below HS9_5.out.2 hzB_6))
              have HZA6 := Lib.hid hz_6
              clear hz_6 hzB_6
              obtain ⟨bA, hbA⟩ : ∃ b, U_5.heap.size = b := ⟨_, rfl⟩
              obtain ⟨bB, hbB⟩ : ∃ b, w_2.heap.size = b := ⟨_, rfl⟩
              have HZA := HZA6
              have HZB := HZB6
              have HSA := HS4_6
              have HSB := HS9_6
              have HBE := HB_6
              rw [hbA] at HZA HNE HGA
              rw [hbB] at HZB HNE HGB
              try rw [hbA]
              try rw [hbB]
              clear hbA hbB
              obtain ⟨EW, hEW⟩ : ∃ E : World, U_6 = E := ⟨_, rfl⟩
              rw [hEW] at HZA HZB HSA HSB HBE hHeld ⊢
              clear hEW
              obtain ⟨y0, y1, y2, y3, y4, y5⟩ := res_cells HZA.out
              have f0 := mem_free HZA.out 0
              have f1 := mem_free HZA.out 1
              have f2 := mem_free HZA.out 2
              have f3 := mem_free HZA.out 3
              have f4 := mem_free HZA.out 4
              have f5 := mem_free HZA.out 5
              obtain ⟨U2, hU2⟩ : ∃ U2 : World, set6 EW bA (.slice aa R.mem.arrays.length ac) (.slice ara R.mem.shared.length arc) (.slice aoa R.out.length aoc) (.int .i64 (R.rd : Int)) (.int .i64 (R.st : Int)) (.int .i64 R.err) = U2 := ⟨_, rfl⟩
              have HFAR2 : Hid (∀ k, k ≠ bA → U2.heap[k]? = EW.heap[k]?) := fun k hk => by rw [← hU2]; exact set6_far hk
              have HA2' : Hid (U2.heap[bA]? = some (Res.obj R aa ac ara arc aoa aoc)) := by show _ = _; rw [← hU2]; exact set6_at HZA.out
              have HZB2 : Hid (U2.heap[bB]? = some zRes) := (HFAR2.out bB (fun e => HNE.out e.symm)).trans HZB.out
              have HBU2 : Hid (Below E0.heap.size E0 U2) := by show Below _ _ _; rw [← hU2]; exact set6_below HBE.out HGA.out
              have HSA2 := Lib.hid (ResAt.stored HZA.out HFAR2.out HSA.out.1 HSA.out.2)
              have HSB2 := Lib.hid (ResAt.stored HZA.out HFAR2.out HSB.out.1 HSB.out.2)
              obtain ⟨p0, p1, p2, p3, p4, p5⟩ := res_cells HZB2.out
              have g0 := mem_free HZB2.out 0
              have g1 := mem_free HZB2.out 1
              have g2 := mem_free HZB2.out 2
              have g3 := mem_free HZB2.out 3
              have g4 := mem_free HZB2.out 4
              have g5 := mem_free HZB2.out 5
              obtain ⟨U3, hU3⟩ : ∃ U3 : World, set6 U2 bB (.slice ba S.mem.arrays.length bc) (.slice bra S.mem.shared.length brc) (.slice boa S.out.length boc) (.int .i64 (S.rd : Int)) (.int .i64 (S.st : Int)) (.int .i64 S.err) = U3 := ⟨_, rfl⟩
              have HFAR3 : Hid (∀ k, k ≠ bB → U3.heap[k]? = U2.heap[k]?) := fun k hk => by rw [← hU3]; exact set6_far hk
              have HB3' : Hid (U3.heap[bB]? = some (Res.obj S ba bc bra brc boa boc)) := by show _ = _; rw [← hU3]; exact set6_at HZB2.out
              have HA3' : Hid (U3.heap[bA]? = some (Res.obj R aa ac ara arc aoa aoc)) := (HFAR3.out bA HNE.out).trans HA2'.out
              have HBU3 : Hid (Below E0.heap.size E0 U3) := by show Below _ _ _; rw [← hU3]; exact set6_below HBU2.out HGB.out
              have HSA3 := Lib.hid (ResAt.stored HZB2.out HFAR3.out HSA2.out.1 HSA2.out.2)
              have HSB3 := Lib.hid (ResAt.stored HZB2.out HFAR3.out HSB2.out.1 HSB2.out.2)
              unfold set6 at hU2 hU3
              refine wpAnyH_ready (rs := [12]) (by kernel_rfl) (by simp) (AllReadyH.cons rfl (fun K hK => ?_) AllReadyH.nil)
              go_simp
              try rw [hU2]
              refine hK.out _ _ (HBU2.out) (fun hHeld => ?_)
              clear hK K
              rename_i hOld
              clear hOld
              (try simp only [Act.put, List.getElem_toArray, List.getElem_cons_zero, List.getElem_cons_succ, List.setIfInBounds_toArray, List.set_cons_zero, List.set_cons_succ])
              refine wpAnyH_ready (rs := [13]) (by kernel_rfl) (by simp) (AllReadyH.cons rfl (fun K hK => ?_) AllReadyH.nil)
              go_simp
              try rw [hU3]
              refine hK.out _ _ (HBU3.out) (fun hHeld => ?_)
              clear hK K
              rename_i hOld
              clear hOld
              (try simp only [Act.put, List.getElem_toArray, List.getElem_cons_zero, List.getElem_cons_succ, List.setIfInBounds_toArray, List.set_cons_zero, List.set_cons_succ])
              clear hHeld y0 y1 y2 y3 y4 y5 f0 f1 f2 f3 f4 f5 p0 p1 p2 p3 p4 p5 g0 g1 g2 g3 g4 g5 hU2 hU3
              refine wpAnyH_done (by kernel_rfl) ?_ _
              go_wp2_with fail
              go_meet
              exact ⟨bA, bB, aa, ac, ara, arc, aoa, aoc, ba, bc, bra, brc, boa, boc, rfl, rfl, HA3'.out, HB3'.out, HSA3.out.1, HSB3.out.1, HBU3.out⟩
          · go_simp
            refine hK.out _ _ (mem_then HB_1.out (mem_alloc _ _)) (fun hHeld => ?_)
            clear hK K
            rename_i hOld
            clear hOld
            (try simp only [Act.put, List.getElem_toArray, List.getElem_cons_zero, List.getElem_cons_succ, List.setIfInBounds_toArray, List.set_cons_zero, List.set_cons_succ])
            have hz_7 : (w_1.alloc zRes).heap[w_1.heap.size]? = some zRes := mem_new _ _
            have hzB_7 := mem_alloc w_1 zRes
            generalize hQ_7 : w_1.alloc zRes = U_7 at hz_7 hzB_7 hHeld ⊢
            clear hQ_7
            have HB_7 := Lib.hid (mem_then HB_1.out hzB_7)
            have HGA : Hid (E0.heap.size ≤ w_1.heap.size) := HB_1.out.size
            have HS4_7 := Lib.hid (And.intro (ResAt.below HS4_1.out.1 hzB_7) (MemTy.below HS4_1.out.2 hzB_7))
            have HZA7 := Lib.hid hz_7
            clear hz_7 hzB_7
            refine wpAnyH_ready (rs := [9, 11]) (by kernel_rfl) (by simp) (AllReadyH.cons rfl (fun K hK => ?_) (AllReadyH.cons rfl (fun K hK => ?_) AllReadyH.nil))
            · go_simp
              refine (J2.out U_7 HB_7.out).mono ?_
              rintro e w_8 ⟨ba, bc, bra, brc, boa, boc, rfl, hra, hB_8, _, hty⟩
              have HB_8 := Lib.hid (mem_then HB_7.out hB_8)
              have HZA8 := Lib.hid (mem_keep HZA7.out hB_8)
              have HS4_8 := Lib.hid (And.intro (ResAt.below HS4_7.out.1 hB_8) (MemTy.below HS4_7.out.2 hB_8))
              have HS9_8 := Lib.hid (And.intro hra hty)
              clear hra hty hB_8
              refine hK.out _ _ (HB_8.out) (fun hHeld => ?_)
              clear hK K
              rename_i hOld
              clear hOld
              (try simp only [Act.put, List.getElem_toArray, List.getElem_cons_zero, List.getElem_cons_succ, List.setIfInBounds_toArray, List.set_cons_zero, List.set_cons_succ])
              refine wpAnyH_ready (rs := [11]) (by kernel_rfl) (by simp) (AllReadyH.cons rfl (fun K hK => ?_) AllReadyH.nil)
              go_simp
              refine hK.out _ _ (mem_then HB_8.out (mem_alloc _ _)) (fun hHeld => ?_)
              clear hK K
              rename_i hOld
              clear hOld
              (try simp only [Act.put, List.getElem_toArray, List.getElem_cons_zero, List.getElem_cons_succ, List.setIfInBounds_toArray, List.set_cons_zero, List.set_cons_succ])
              have hz_9 : (w_8.alloc zRes).heap[w_8.heap.size]? = some zRes := mem_new _ _
              have hzB_9 := mem_alloc w_8 zRes
              generalize hQ_9 : w_8.alloc zRes = U_9 at hz_9 hzB_9 hHeld ⊢
              clear hQ_9
              have HB_9 := Lib.hid (mem_then HB_8.out hzB_9)
              have hlo_9 := mem_lt HZA8.out
              have HNE : Hid (w_1.heap.size ≠ w_8.heap.size) := fun e => by omega
              clear hlo_9
              have HGB : Hid (E0.heap.size ≤ w_8.heap.size) := HB_8.out.size
              have HZA9 := Lib.hid (mem_keep HZA8.out hzB_9)
              have HS4_9 := Lib.hid (And.intro (ResAt.below HS4_8.out.1 hzB_9) (MemTy.below HS4_8.out.2 hzB_9))
              have HS9_9 := Lib.hid (And.intro (ResAt.below HS9_8.out.1 hzB_9) (MemTy.below HS9_8.out.2 hzB_9))
              have HZB9 := Lib.hid hz_9
              clear hz_9 hzB_9
              obtain ⟨bA, hbA⟩ : ∃ b, w_1.heap.size = b := ⟨_, rfl⟩
              obtain ⟨bB, hbB⟩ : ∃ b, w_8.heap.size = b := ⟨_, rfl⟩
              have HZA := HZA9
              have HZB := HZB9
              have HSA := HS4_9
              have HSB := HS9_9
              have HBE := HB_9
              rw [hbA] at HZA HNE HGA
              rw [hbB] at HZB HNE HGB
              try rw [hbA]
              try rw [hbB]
              clear hbA hbB
              obtain ⟨EW, hEW⟩ : ∃ E : World, U_9 = E := ⟨_, rfl⟩
              rw [hEW] at HZA HZB HSA HSB HBE hHeld ⊢
              clear hEW
              obtain ⟨y0, y1, y2, y3, y4, y5⟩ := res_cells HZA.out
              have f0 := mem_free HZA.out 0
              have f1 := mem_free HZA.out 1
              have f2 := mem_free HZA.out 2
              have f3 := mem_free HZA.out 3
              have f4 := mem_free HZA.out 4
              have f5 := mem_free HZA.out 5
              obtain ⟨U2, hU2⟩ : ∃ U2 : World, set6 EW bA (.slice aa R.mem.arrays.length ac) (.slice ara R.mem.shared.length arc) (.slice aoa R.out.length aoc) (.int .i64 (R.rd : Int)) (.int .i64 (R.st : Int)) (.int .i64 R.err) = U2 := ⟨_, rfl⟩
              have HFAR2 : Hid (∀ k, k ≠ bA → U2.heap[k]? = EW.heap[k]?) := fun k hk => by rw [← hU2]; exact set6_far hk
              have HA2' : Hid (U2.heap[bA]? = some (Res.obj R aa ac ara arc aoa aoc)) := by show _ = _; rw [← hU2]; exact set6_at HZA.out
              have HZB2 : Hid (U2.heap[bB]? = some zRes) := (HFAR2.out bB (fun e => HNE.out e.symm)).trans HZB.out
              have HBU2 : Hid (Below E0.heap.size E0 U2) := by show Below _ _ _; rw [← hU2]; exact set6_below HBE.out HGA.out
              have HSA2 := Lib.hid (ResAt.stored HZA.out HFAR2.out HSA.out.1 HSA.out.2)
              have HSB2 := Lib.hid (ResAt.stored HZA.out HFAR2.out HSB.out.1 HSB.out.2)
              obtain ⟨p0, p1, p2, p3, p4, p5⟩ := res_cells HZB2.out
              have g0 := mem_free HZB2.out 0
              have g1 := mem_free HZB2.out 1
              have g2 := mem_free HZB2.out 2
              have g3 := mem_free HZB2.out 3
              have g4 := mem_free HZB2.out 4
              have g5 := mem_free HZB2.out 5
              obtain ⟨U3, hU3⟩ : ∃ U3 : World, set6 U2 bB (.slice ba S.mem.arrays.length bc) (.slice bra S.mem.shared.length brc) (.slice boa S.out.length boc) (.int .i64 (S.rd : Int)) (.int .i64 (S.st : Int)) (.int .i64 S.err) = U3 := ⟨_, rfl⟩
              have HFAR3 : Hid (∀ k, k ≠ bB → U3.heap[k]? = U2.heap[k]?) := fun k hk => by rw [← hU3]; exact set6_far hk
              have HB3' : Hid (U3.heap[bB]? = some (Res.obj S ba bc bra brc boa boc)) := by show _ = _; rw [← hU3]; exact set6_at HZB2.out
              have HA3' : Hid (U3.heap[bA]? = some (Res.obj R aa ac ara arc aoa aoc)) := (HFAR3.out bA HNE.out).trans HA2'.out
              have HBU3 : Hid (Below E0.heap.size E0 U3) := by show Below _ _ _; rw [← hU3]; exact set6_below HBU2.out HGB.out
              have HSA3 := Lib.hid (ResAt.stored HZB2.out HFAR3.out HSA2.out.1 HSA2.out.2)
              have HSB3 := Lib.hid (ResAt.stored HZB2.out HFAR3.out HSB2.out.1 HSB2.out.2)
              unfold set6 at hU2 hU3
              refine wpAnyH_ready (rs := [12]) (by kernel_rfl) (by simp) (AllReadyH.cons rfl (fun K hK => ?_) AllReadyH.nil)
              go_simp
              try rw [hU2]
              refine hK.out _ _ (HBU2.out) (fun hHeld => ?_)
              clear hK K
              rename_i hOld
              clear hOld
              (try simp only [Act.put, List.getElem_toArray, List.getElem_cons_zero, List.getElem_cons_succ, List.setIfInBounds_toArray, List.set_cons_zero, List.set_cons_succ])
              refine wpAnyH_ready (rs := [13]) (by kernel_rfl) (by simp) (AllReadyH.cons rfl (fun K hK => ?_) AllReadyH.nil)
              go_simp
              try rw [hU3]
              refine hK.out _ _ (HBU3.out) (fun hHeld => ?_)
              clear hK K
              rename_i hOld
              clear hOld
              (try simp only [Act.put, List.getElem_toArray, List.getElem_cons_zero, List.getElem_cons_succ, List.setIfInBounds_toArray, List.set_cons_zero, List.set_cons_succ])
              clear hHeld y0 y1 y2 y3 y4 y5 f0 f1 f2 f3 f4 f5 p0 p1 p2 p3 p4 p5 g0 g1 g2 g3 g4 g5 hU2 hU3
              refine wpAnyH_done (by kernel_rfl) ?_ _
              go_wp2_with fail
              go_meet
              exact ⟨bA, bB, aa, ac, ara, arc, aoa, aoc, ba, bc, bra, brc, boa, boc, rfl, rfl, HA3'.out, HB3'.out, HSA3.out.1, HSB3.out.1, HBU3.out⟩
            · go_simp
              refine hK.out _ _ (mem_then HB_7.out (mem_alloc _ _)) (fun hHeld => ?_)
              clear hK K
              rename_i hOld
              clear hOld
              (try simp only [Act.put, List.getElem_toArray, List.getElem_cons_zero, List.getElem_cons_succ, List.setIfInBounds_toArray, List.set_cons_zero, List.set_cons_succ])
              have hz_10 : (U_7.alloc zRes).heap[U_7.heap.size]? = some zRes := mem_new _ _
              have hzB_10 := mem_alloc U_7 zRes
              generalize hQ_10 : U_7.alloc zRes = U_10 at hz_10 hzB_10 hHeld ⊢
              clear hQ_10
              have HB_10 := Lib.hid (mem_then HB_7.out hzB_10)
              have hlo_10 := mem_lt HZA7.out
              have HNE : Hid (w_1.heap.size ≠ U_7.heap.size) := fun e => by omega
              clear hlo_10
              have HGB : Hid (E0.heap.size ≤ U_7.heap.size) := HB_7.out.size
              have HZA10 := Lib.hid (mem_keep HZA7.out hzB_10)
              have HS4_10 := Lib.hid (And.intro (ResAt.below HS4_7.out.1 hzB_10) (MemTy.below HS4_7.out.2 hzB_10))
              have HZB10 := Lib.hid hz_10
              clear hz_10 hzB_10
              refine wpAnyH_ready (rs := [9]) (by kernel_rfl) (by simp) (AllReadyH.cons rfl (fun K hK => ?_) AllReadyH.nil)
              go_simp
              refine (J2.out U_10 HB_10.out).mono ?_
              rintro e w_11 ⟨ba, bc, bra, brc, boa, boc, rfl, hra, hB_11, _, hty⟩
              have HB_11 := Lib.hid (mem_then HB_10.out hB_11)
              have HZA11 := Lib.hid (mem_keep HZA10.out hB_11)
              have HZB11 := Lib.hid (mem_keep HZB10.out hB_11)
              have HS4_11 := Lib.hid (And.intro (ResAt.below HS4_10.out.1 hB_11) (MemTy.below HS4_10.out.2 hB_11))
              have HS9_11 := Lib.hid (And.intro hra hty)
              clear hra hty hB_11
              refine hK.out _ _ (HB_11.out) (fun hHeld => ?_)
              clear hK K
              rename_i hOld
              clear hOld
              (try simp only [Act.put, List.getElem_toArray, List.getElem_cons_zero, List.getElem_cons_succ, List.setIfInBounds_toArray, List.set_cons_zero, List.set_cons_succ])
              obtain ⟨bA, hbA⟩ : ∃ b, w_1.heap.size = b := ⟨_, rfl⟩
              obtain ⟨bB, hbB⟩ : ∃ b, U_7.heap.size = b := ⟨_, rfl⟩
              have HZA := HZA11
              have HZB := HZB11
              have HSA := HS4_11
              have HSB := HS9_11
              have HBE := HB_11
              rw [hbA] at HZA HNE HGA
              rw [hbB] at HZB HNE HGB
              try rw [hbA]
              try rw [hbB]
              clear hbA hbB
              obtain ⟨EW, hEW⟩ : ∃ E : World, w_11 = E := ⟨_, rfl⟩
              rw [hEW] at HZA HZB HSA HSB HBE hHeld ⊢
              clear hEW
              obtain ⟨y0, y1, y2, y3, y4, y5⟩ := res_cells HZA.out
              have f0 := mem_free HZA.out 0
              have f1 := mem_free HZA.out 1
              have f2 := mem_free HZA.out 2
              have f3 := mem_free HZA.out 3
              have f4 := mem_free HZA.out 4
              have f5 := mem_free HZA.out 5
              obtain ⟨U2, hU2⟩ : ∃ U2 : World, set6 EW bA (.slice aa R.mem.arrays.length ac) (.slice ara R.mem.shared.length arc) (.slice aoa R.out.length aoc) (.int .i64 (R.rd : Int)) (.int .i64 (R.st : Int)) (.int .i64 R.err) = U2 := ⟨_, rfl⟩
              have HFAR2 : Hid (∀ k, k ≠ bA → U2.heap[k]? = EW.heap[k]?) := fun k hk => by rw [← hU2]; exact set6_far hk
              have HA2' : Hid (U2.heap[bA]? = some (Res.obj R aa ac ara arc aoa aoc)) := by show _ = _; rw [← hU2]; exact set6_at HZA.out
              have HZB2 : Hid (U2.heap[bB]? = some zRes) := (HFAR2.out bB (fun e => HNE.out e.symm)).trans HZB.out
              have HBU2 : Hid (Below E0.heap.size E0 U2) := by show Below _ _ _; rw [← hU2]; exact set6_below HBE.out HGA.out
              have HSA2 := Lib.hid (ResAt.stored HZA.out HFAR2.out HSA.out.1 HSA.out.2)
              have HSB2 := Lib.hid (ResAt.stored HZA.out HFAR2.out HSB.out.1 HSB.out.2)
              obtain ⟨p0, p1, p2, p3, p4, p5⟩ := res_cells HZB2.out
              have g0 := mem_free HZB2.out 0
              have g1 := mem_free HZB2.out 1
              have g2 := mem_free HZB2.out 2
              have g3 := mem_free HZB2.out 3
              have g4 := mem_free HZB2.out 4
              have g5 := mem_free HZB2.out 5
              obtain ⟨U3, hU3⟩ : ∃ U3 : World, set6 U2 bB (.slice ba S.mem.arrays.length bc) (.slice bra S.mem.shared.length brc) (.slice boa S.out.length boc) (.int .i64 (S.rd : Int)) (.int .i64 (S.st : Int)) (.int .i64 S.err) = U3 := ⟨_, rfl⟩
              have HFAR3 : Hid (∀ k, k ≠ bB → U3.heap[k]? = U2.heap[k]?) := fun k hk => by rw [← hU3]; exact set6_far hk
              have HB3' : Hid (U3.heap[bB]? = some (Res.obj S ba bc bra brc boa boc)) := by show _ = _; rw [← hU3]; exact set6_at HZB2.out
              have HA3' : Hid (U3.heap[bA]? = some (Res.obj R aa ac ara arc aoa aoc)) := (HFAR3.out bA HNE.out).trans HA2'.out
              have HBU3 : Hid (Below E0.heap.size E0 U3) := by show Below _ _ _; rw [← hU3]; exact set6_below HBU2.out HGB.out
              have HSA3 := Lib.hid (ResAt.stored HZB2.out HFAR3.out HSA2.out.1 HSA2.out.2)
              have HSB3 := Lib.hid (ResAt.stored HZB2.out HFAR3.out HSB2.out.1 HSB2.out.2)
              unfold set6 at hU2 hU3
              refine wpAnyH_ready (rs := [12]) (by kernel_rfl) (by simp) (AllReadyH.cons rfl (fun K hK => ?_) AllReadyH.nil)
              go_simp
              try rw [hU2]
              refine hK.out _ _ (HBU2.out) (fun hHeld => ?_)
              clear hK K
              rename_i hOld
              clear hOld
              (try simp only [Act.put, List.getElem_toArray, List.getElem_cons_zero, List.getElem_cons_succ, List.setIfInBounds_toArray, List.set_cons_zero, List.set_cons_succ])
              refine wpAnyH_ready (rs := [13]) (by kernel_rfl) (by simp) (AllReadyH.cons rfl (fun K hK => ?_) AllReadyH.nil)
              go_simp
              try rw [hU3]
              refine hK.out _ _ (HBU3.out) (fun hHeld => ?_)
              clear hK K
              rename_i hOld
              clear hOld
              (try simp only [Act.put, List.getElem_toArray, List.getElem_cons_zero, List.getElem_cons_succ, List.setIfInBounds_toArray, List.set_cons_zero, List.set_cons_succ])
              clear hHeld y0 y1 y2 y3 y4 y5 f0 f1 f2 f3 f4 f5 p0 p1 p2 p3 p4 p5 g0 g1 g2 g3 g4 g5 hU2 hU3
              refine wpAnyH_done (by kernel_rfl) ?_ _
              go_wp2_with fail
              go_meet
              exact ⟨bA, bB, aa, ac, ara, arc, aoa, aoc, ba, bc, bra, brc, boa, boc, rfl, rfl, HA3'.out, HB3'.out, HSA3.out.1, HSB3.out.1, HBU3.out⟩
          · go_simp
            refine hK.out _ _ (mem_then HB_1.out (mem_alloc _ _)) (fun hHeld => ?_)
            clear hK K
            rename_i hOld
            clear hOld
            (try simp only [Act.put, List.getElem_toArray, List.getElem_cons_zero, List.getElem_cons_succ, List.setIfInBounds_toArray, List.set_cons_zero, List.set_cons_succ])
            have hz_12 : (w_1.alloc zRes).heap[w_1.heap.size]? = some zRes := mem_new _ _
            have hzB_12 := mem_alloc w_1 zRes
            generalize hQ_12 : w_1.alloc zRes = U_12 at hz_12 hzB_12 hHeld ⊢
            clear hQ_12
            have HB_12 := Lib.hid (mem_then HB_1.out hzB_12)
            have HGB : Hid (E0.heap.size ≤ w_1.heap.size) := HB_1.out.size
            have HS4_12 := Lib.hid (And.intro (ResAt.below HS4_1.out.1 hzB_12) (MemTy.below HS4_1.out.2 hzB_12))
            have HZB12 := Lib.hid hz_12
            clear hz_12 hzB_12
            refine wpAnyH_ready (rs := [9, 10]) (by kernel_rfl) (by simp) (AllReadyH.cons rfl (fun K hK => ?_) (AllReadyH.cons rfl (fun K hK => ?_) AllReadyH.nil))
            · go_simp
              refine (J2.out U_12 HB_12.out).mono ?_
              rintro e w_13 ⟨ba, bc, bra, brc, boa, boc, rfl, hra, hB_13, _, hty⟩
              have HB_13 := Lib.hid (mem_then HB_12.out hB_13)
              have HZB13 := Lib.hid (mem_keep HZB12.out hB_13)
              have HS4_13 := Lib.hid (And.intro (ResAt.below HS4_12.out.1 hB_13) (MemTy.below HS4_12.out.2 hB_13))
              have HS9_13 := Lib.hid (And.intro hra hty)
              clear hra hty hB_13
              refine hK.out _ _ (HB_13.out) (fun hHeld => ?_)
              clear hK K
              rename_i hOld
              clear hOld
              (try simp only [Act.put, List.getElem_toArray, List.getElem_cons_zero, List.getElem_cons_succ, List.setIfInBounds_toArray, List.set_cons_zero, List.set_cons_succ])
              refine wpAnyH_ready (rs := [10]) (by kernel_rfl) (by simp) (AllReadyH.cons rfl (fun K hK => ?_) AllReadyH.nil)
              go_simp
              refine hK.out _ _ (mem_then HB_13.out (mem_alloc _ _)) (fun hHeld => ?_)
              clear hK K
              rename_i hOld
              clear hOld
              (try simp only [Act.put, List.getElem_toArray, List.getElem_cons_zero, List.getElem_cons_succ, List.setIfInBounds_toArray, List.set_cons_zero, List.set_cons_succ])
              have hz_14 : (w_13.alloc zRes).heap[w_13.heap.size]? = some zRes := mem_new _ _
              have hzB_14 := mem_alloc w_13 zRes
              generalize hQ_14 : w_13.alloc zRes = U_14 at hz_14 hzB_14 hHeld ⊢
              clear hQ_14
              have HB_14 := Lib.hid (mem_then HB_13.out hzB_14)
              have hlo_14 := mem_lt HZB13.out
              have HNE : Hid (w_13.heap.size ≠ w_1.heap.size) := fun e => by omega
              clear hlo_14
              have HGA : Hid (E0.heap.size ≤ w_13.heap.size) := HB_13.out.size
              have HZB14 := Lib.hid (mem_keep HZB13.out hzB_14)
              have HS4_14 := Lib.hid (And.intro (ResAt.below HS4_13.out.1 hzB_14) (MemTy.below HS4_13.out.2 hzB_14))
              have HS9_14 := Lib.hid (And.intro (ResAt.below HS9_13.out.1 hzB_14) (MemTy.below HS9_13.out.2 hzB_14))
              have HZA14 := Lib.hid hz_14
              clear hz_14 hzB_14
              obtain ⟨bA, hbA⟩ : ∃ b, w_13.heap.size = b := ⟨_, rfl⟩
              obtain ⟨bB, hbB⟩ : ∃ b, w_1.heap.size = b := ⟨_, rfl⟩
              have HZA := HZA14
              have HZB := HZB14
              have HSA := HS4_14
              have HSB := HS9_14
              have HBE := HB_14
              rw [hbA] at HZA HNE HGA
              rw [hbB] at HZB HNE HGB
              try rw [hbA]
              try rw [hbB]
              clear hbA hbB
              obtain ⟨EW, hEW⟩ : ∃ E : World, U_14 = E := ⟨_, rfl⟩
              rw [hEW] at HZA HZB HSA HSB HBE hHeld ⊢
              clear hEW
              obtain ⟨y0, y1, y2, y3, y4, y5⟩ := res_cells HZA.out
              have f0 := mem_free HZA.out 0
              have f1 := mem_free HZA.out 1
              have f2 := mem_free HZA.out 2
              have f3 := mem_free HZA.out 3
              have f4 := mem_free HZA.out 4
              have f5 := mem_free HZA.out 5
              obtain ⟨U2, hU2⟩ : ∃ U2 : World, set6 EW bA (.slice aa R.mem.arrays.length ac) (.slice ara R.mem.shared.length arc) (.slice aoa R.out.length aoc) (.int .i64 (R.rd : Int)) (.int .i64 (R.st : Int)) (.int .i64 R.err) = U2 := ⟨_, rfl⟩
              have HFAR2 : Hid (∀ k, k ≠ bA → U2.heap[k]? = EW.heap[k]?) := fun k hk => by rw [← hU2]; exact set6_far hk
              have HA2' : Hid (U2.heap[bA]? = some (Res.obj R aa ac ara arc aoa aoc)) := by show _ = _; rw [← hU2]; exact set6_at HZA.out
              have HZB2 : Hid (U2.heap[bB]? = some zRes) := (HFAR2.out bB (fun e => HNE.out e.symm)).trans HZB.out
              have HBU2 : Hid (Below E0.heap.size E0 U2) := by show Below _ _ _; rw [← hU2]; exact set6_below HBE.out HGA.out
              have HSA2 := Lib.hid (ResAt.stored HZA.out HFAR2.out HSA.out.1 HSA.out.2)
              have HSB2 := Lib.hid (ResAt.stored HZA.out HFAR2.out HSB.out.1 HSB.out.2)
              obtain ⟨p0, p1, p2, p3, p4, p5⟩ := res_cells HZB2.out
              have g0 := mem_free HZB2.out 0
              have g1 := mem_free HZB2.out 1
              have g2 := mem_free HZB2.out 2
              have g3 := mem_free HZB2.out 3
              have g4 := mem_free HZB2.out 4
              have g5 := mem_free HZB2.out 5
              obtain ⟨U3, hU3⟩ : ∃ U3 : World, set6 U2 bB (.slice ba S.mem.arrays.length bc) (.slice bra S.mem.shared.length brc) (.slice boa S.out.length boc) (.int .i64 (S.rd : Int)) (.int .i64 (S.st : Int)) (.int .i64 S.err) = U3 := ⟨_, rfl⟩
              have HFAR3 : Hid (∀ k, k ≠ bB → U3.heap[k]? = U2.heap[k]?) := fun k hk => by rw [← hU3]; exact set6_far hk
              have HB3' : Hid (U3.heap[bB]? = some (Res.obj S ba bc bra brc boa boc)) := by show _ = _; rw [← hU3]; exact set6_at HZB2.out
              have HA3' : Hid (U3.heap[bA]? = some (Res.obj R aa ac ara arc aoa aoc)) := (HFAR3.out bA HNE.out).trans HA2'.out
              have HBU3 : Hid (Below E0.heap.size E0 U3) := by show Below _ _ _; rw [← hU3]; exact set6_below HBU2.out HGB.out
              have HSA3 := Lib.hid (ResAt.stored HZB2.out HFAR3.out HSA2.out.1 HSA2.out.2)
              have HSB3 := Lib.hid (ResAt.stored HZB2.out HFAR3.out HSB2.out.1 HSB2.out.2)
              unfold set6 at hU2 hU3
              refine wpAnyH_ready (rs := [12]) (by kernel_rfl) (by simp) (AllReadyH.cons rfl (fun K hK => ?_) AllReadyH.nil)
              go_simp
              try rw [hU2]
              refine hK.out _ _ (HBU2.out) (fun hHeld => ?_)
              clear hK K
              rename_i hOld
              clear hOld
              (try simp only [Act.put, List.getElem_toArray, List.getElem_cons_zero, List.getElem_cons_succ, List.setIfInBounds_toArray, List.set_cons_zero, List.set_cons_succ])
              refine wpAnyH_ready (rs := [13]) (by kernel_rfl) (by simp) (AllReadyH.cons rfl (fun K hK => ?_) AllReadyH.nil)
              go_simp
              try rw [hU3]
              refine hK.out _ _ (HBU3.out) (fun hHeld => ?_)
              clear hK K
              rename_i hOld
              clear hOld
              (try simp only [Act.put, List.getElem_toArray, List.getElem_cons_zero, List.getElem_cons_succ, List.setIfInBounds_toArray, List.set_cons_zero, List.set_cons_succ])
              clear hHeld y0 y1 y2 y3 y4 y5 f0 f1 f2 f3 f4 f5 p0 p1 p2 p3 p4 p5 g0 g1 g2 g3 g4 g5 hU2 hU3
              refine wpAnyH_done (by kernel_rfl) ?_ _
              go_wp2_with fail
              go_meet
              exact ⟨bA, bB, aa, ac, ara, arc, aoa, aoc, ba, bc, bra, brc, boa, boc, rfl, rfl, HA3'.out, HB3'.out, HSA3.out.1, HSB3.out.1, HBU3.out⟩
            · go_simp
              refine hK.out _ _ (mem_then HB_12.out (mem_alloc _ _)) (fun hHeld => ?_)
              clear hK K
              rename_i hOld
              clear hOld
              (try simp only [Act.put, List.getElem_toArray, List.getElem_cons_zero, List.getElem_cons_succ, List.setIfInBounds_toArray, List.set_cons_zero, List.set_cons_succ])
              have hz_15 : (U_12.alloc zRes).heap[U_12.heap.size]? = some zRes := mem_new _ _
              have hzB_15 := mem_alloc U_12 zRes
              generalize hQ_15 : U_12.alloc zRes = U_15 at hz_15 hzB_15 hHeld ⊢
              clear hQ_15
              have HB_15 := Lib.hid (mem_then HB_12.out hzB_15)
              have hlo_15 := mem_lt HZB12.out
              have HNE : Hid (U_12.heap.size ≠ w_1.heap.size) := fun e => by omega
              clear hlo_15
              have HGA : Hid (E0.heap.size ≤ U_12.heap.size) := HB_12.out.size
              have HZB15 := Lib.hid (mem_keep HZB12.out hzB_15)
              have HS4_15 := Lib.hid (And.intro (ResAt.below HS4_12.out.1 hzB_15) (MemTy.below HS4_12.out.2 hzB_15))
              have HZA15 := Lib.hid hz_15
              clear hz_15 hzB_15
              refine wpAnyH_ready (rs := [9]) (by kernel_rfl) (by simp) (AllReadyH.cons rfl (fun K hK => ?_) AllReadyH.nil)
              go_simp
              refine (J2.out U_15 HB_15.out).mono ?_
              rintro e w_16 ⟨ba, bc, bra, brc, boa, boc, rfl, hra, hB_16, _, hty⟩
              have HB_16 := Lib.hid (mem_then HB_15.out hB_16)
              have HZA16 := Lib.hid (mem_keep HZA15.out hB_16)
              have HZB16 := Lib.hid (mem_keep HZB15.out hB_16)
              have HS4_16 := Lib.hid (And.intro (ResAt.below HS4_15.out.1 hB_16) (MemTy.below HS4_15.out.2 hB_16))
              have HS9_16 := Lib.hid (And.intro hra hty)
              clear hra hty hB_16
              refine hK.out _ _ (HB_16.out) (fun hHeld => ?_)
              clear hK K
              rename_i hOld
              clear hOld
              (try simp only [Act.put, List.getElem_toArray, List.getElem_cons_zero, List.getElem_cons_succ, List.setIfInBounds_toArray, List.set_cons_zero, List.set_cons_succ])
              obtain ⟨bA, hbA⟩ : ∃ b, U_12.heap.size = b := ⟨_, rfl⟩
              obtain ⟨bB, hbB⟩ : ∃ b, w_1.heap.size = b := ⟨_, rfl⟩
              have HZA := HZA16
              have HZB := HZB16
              have HSA := HS4_16
              have HSB := HS9_16
              have HBE := HB_16
              rw [hbA] at HZA HNE HGA
              rw [hbB] at HZB HNE HGB
              try rw [hbA]
              try rw [hbB]
              clear hbA hbB
              obtain ⟨EW, hEW⟩ : ∃ E : World, w_16 = E := ⟨_, rfl⟩
              rw [hEW] at HZA HZB HSA HSB HBE hHeld ⊢
              clear hEW
              obtain ⟨y0, y1, y2, y3, y4, y5⟩ := res_cells HZA.out
              have f0 := mem_free HZA.out 0
              have f1 := mem_free HZA.out 1
              have f2 := mem_free HZA.out 2
              have f3 := mem_free HZA.out 3
              have f4 := mem_free HZA.out 4
              have f5 := mem_free HZA.out 5
              obtain ⟨U2, hU2⟩ : ∃ U2 : World, set6 EW bA (.slice aa R.mem.arrays.length ac) (.slice ara R.mem.shared.length arc) (.slice aoa R.out.length aoc) (.int .i64 (R.rd : Int)) (.int .i64 (R.st : Int)) (.int .i64 R.err) = U2 := ⟨_, rfl⟩
              have HFAR2 : Hid (∀ k, k ≠ bA → U2.heap[k]? = EW.heap[k]?) := fun k hk => by rw [← hU2]; exact set6_far hk
              have HA2' : Hid (U2.heap[bA]? = some (Res.obj R aa ac ara arc aoa aoc)) := by show _ = _; rw [← hU2]; exact set6_at HZA.out
              have HZB2 : Hid (U2.heap[bB]? = some zRes) := (HFAR2.out bB (fun e => HNE.out e.symm)).trans HZB.out
              have HBU2 : Hid (Below E0.heap.size E0 U2) := by show Below _ _ _; rw [← hU2]; exact set6_below HBE.out HGA.out
              have HSA2 := Lib.hid (ResAt.stored HZA.out HFAR2.out HSA.out.1 HSA.out.2)
              have HSB2 := Lib.hid (ResAt.stored HZA.out HFAR2.out HSB.out.1 HSB.out.2)
              obtain ⟨p0, p1, p2, p3, p4, p5⟩ := res_cells HZB2.out
              have g0 := mem_free HZB2.out 0
              have g1 := mem_free HZB2.out 1
              have g2 := mem_free HZB2.out 2
              have g3 := mem_free HZB2.out 3
              have g4 := mem_free HZB2.out 4
              have g5 := mem_free HZB2.out 5
              obtain ⟨U3, hU3⟩ : ∃ U3 : World, set6 U2 bB (.slice ba S.mem.arrays.length bc) (.slice bra S.mem.shared.length brc) (.slice boa S.out.length boc) (.int .i64 (S.rd : Int)) (.int .i64 (S.st : Int)) (.int .i64 S.err) = U3 := ⟨_, rfl⟩
              have HFAR3 : Hid (∀ k, k ≠ bB → U3.heap[k]? = U2.heap[k]?) := fun k hk => by rw [← hU3]; exact set6_far hk
              have HB3' : Hid (U3.heap[bB]? = some (Res.obj S ba bc bra brc boa boc)) := by show _ = _; rw [← hU3]; exact set6_at HZB2.out
              have HA3' : Hid (U3.heap[bA]? = some (Res.obj R aa ac ara arc aoa aoc)) := (HFAR3.out bA HNE.out).trans HA2'.out
              have HBU3 : Hid (Below E0.heap.size E0 U3) := by show Below _ _ _; rw [← hU3]; exact set6_below HBU2.out HGB.out
              have HSA3 := Lib.hid (ResAt.stored HZB2.out HFAR3.out HSA2.out.1 HSA2.out.2)
              have HSB3 := Lib.hid (ResAt.stored HZB2.out HFAR3.out HSB2.out.1 HSB2.out.2)
              unfold set6 at hU2 hU3
              refine wpAnyH_ready (rs := [12]) (by kernel_rfl) (by simp) (AllReadyH.cons rfl (fun K hK => ?_) AllReadyH.nil)
              go_simp
              try rw [hU2]
              refine hK.out _ _ (HBU2.out) (fun hHeld => ?_)
              clear hK K
              rename_i hOld
              clear hOld
              (try simp only [Act.put, List.getElem_toArray, List.getElem_cons_zero, List.getElem_cons_succ, List.setIfInBounds_toArray, List.set_cons_zero, List.set_cons_succ])
              refine wpAnyH_ready (rs := [13]) (by kernel_rfl) (by simp) (AllReadyH.cons rfl (fun K hK => ?_) AllReadyH.nil)
              go_simp
              try rw [hU3]
              refine hK.out _ _ (HBU3.out) (fun hHeld => ?_)
              clear hK K
              rename_i hOld
              clear hOld
              (try simp only [Act.put, List.getElem_toArray, List.getElem_cons_zero, List.getElem_cons_succ, List.setIfInBounds_toArray, List.set_cons_zero, List.set_cons_succ])
              clear hHeld y0 y1 y2 y3 y4 y5 f0 f1 f2 f3 f4 f5 p0 p1 p2 p3 p4 p5 g0 g1 g2 g3 g4 g5 hU2 hU3
              refine wpAnyH_done (by kernel_rfl) ?_ _
              go_wp2_with fail
              go_meet
              exact ⟨bA, bB, aa, ac, ara, arc, aoa, aoc, ba, bc, bra, brc, boa, boc, rfl, rfl, HA3'.out, HB3'.out, HSA3.out.1, HSB3.out.1, HBU3.out⟩
        · go_simp
          refine hK.out _ _ (mem_then HHV.out (mem_alloc _ _)) (fun hHeld => ?_)
          clear hK K
          rename_i hOld
          clear hOld
          (try simp only [Act.put, List.getElem_toArray, List.getElem_cons_zero, List.getElem_cons_succ, List.setIfInBounds_toArray, List.set_cons_zero, List.set_cons_succ])
          have hz_17 : (v1.alloc zRes).heap[v1.heap.size]? = some zRes := mem_new _ _
          have hzB_17 := mem_alloc v1 zRes
          generalize hQ_17 : v1.alloc zRes = U_17 at hz_17 hzB_17 hHeld ⊢
          clear hQ_17
          have HB_17 := Lib.hid (mem_then HHV.out hzB_17)
          have HGA : Hid (E0.heap.size ≤ v1.heap.size) := HHV.out.size
          have HZA17 := Lib.hid hz_17
          clear hz_17 hzB_17
          refine wpAnyH_ready (rs := [4, 11]) (by kernel_rfl) (by simp) (AllReadyH.cons rfl (fun K hK => ?_) (AllReadyH.cons rfl (fun K hK => ?_) AllReadyH.nil))
          · go_simp
            refine (J1.out U_17 HB_17.out).mono ?_
            rintro e w_18 ⟨aa, ac, ara, arc, aoa, aoc, rfl, hra, hB_18, _, hty⟩
            have HB_18 := Lib.hid (mem_then HB_17.out hB_18)
            have HZA18 := Lib.hid (mem_keep HZA17.out hB_18)
            have HS4_18 := Lib.hid (And.intro hra hty)
            clear hra hty hB_18
            refine hK.out _ _ (HB_18.out) (fun hHeld => ?_)
            clear hK K
            rename_i hOld
            clear hOld
            (try simp only [Act.put, List.getElem_toArray, List.getElem_cons_zero, List.getElem_cons_succ, List.setIfInBounds_toArray, List.set_cons_zero, List.set_cons_succ])
            refine wpAnyH_ready (rs := [9, 11]) (by kernel_rfl) (by simp) (AllReadyH.cons rfl (fun K hK => ?_) (AllReadyH.cons rfl (fun K hK => ?_) AllReadyH.nil))
            · go_simp
              refine (J2.out w_18 HB_18.out).mono ?_
              rintro e w_19 ⟨ba, bc, bra, brc, boa, boc, rfl, hra, hB_19, _, hty⟩
              have HB_19 := Lib.hid (mem_then HB_18.out hB_19)
              have HZA19 := Lib.hid (mem_keep HZA18.out hB_19)
              have HS4_19 := Lib.hid (And.intro (ResAt.below HS4_18.out.1 hB_19) (MemTy.below HS4_18.out.2 hB_19))
              have HS9_19 := Lib.hid (And.intro hra hty)
              clear hra hty hB_19
              refine hK.out _ _ (HB_19.out) (fun hHeld => ?_)
              clear hK K
              rename_i hOld
              clear hOld
              (try simp only [Act.put, List.getElem_toArray, List.getElem_cons_zero, List.getElem_cons_succ, List.setIfInBounds_toArray, List.set_cons_zero, List.set_cons_succ])
              refine wpAnyH_ready (rs := [11]) (by kernel_rfl) (by simp) (AllReadyH.cons rfl (fun K hK => ?_) AllReadyH.nil)
              go_simp
              refine hK.out _ _ (mem_then HB_19.out (mem_alloc _ _)) (fun hHeld => ?_)
              clear hK K
              rename_i hOld
              clear hOld
              (try simp only [Act.put, List.getElem_toArray, List.getElem_cons_zero, List.getElem_cons_succ, List.setIfInBounds_toArray, List.set_cons_zero, List.set_cons_succ])
              have hz_20 : (w_19.alloc zRes).heap[w_19.heap.size]? = some zRes := mem_new _ _
              have hzB_20 := mem_alloc w_19 zRes
              generalize hQ_20 : w_19.alloc zRes = U_20 at hz_20 hzB_20 hHeld ⊢
              clear hQ_20
              have HB_20 := Lib.hid (mem_then HB_19.out hzB_20)
              have hlo_20 := mem_lt HZA19.out
              have HNE : Hid (v1.heap.size ≠ w_19.heap.size) := fun e => by omega
              clear hlo_20
              have HGB : Hid (E0.heap.size ≤ w_19.heap.size) := HB_19.out.size
              have HZA20 := Lib.hid (mem_keep HZA19.out hzB_20)
              have HS4_20 := Lib.hid (And.intro (ResAt.below HS4_19.out.1 hzB_20) (MemTy.below HS4_19.out.2 hzB_20))
              have HS9_20 := Lib.hid (And.intro (ResAt.below HS9_19.out.1 hzB_20) (MemTy.below HS9_19.out.2 hzB_20))
              have HZB20 := Lib.hid hz_20
              clear hz_20 hzB_20
              obtain ⟨bA, hbA⟩ : ∃ b, v1.heap.size = b := ⟨_, rfl⟩
              obtain ⟨bB, hbB⟩ : ∃ b, w_19.heap.size = b := ⟨_, rfl⟩
              have HZA := HZA20
              have HZB := HZB20
              have HSA := HS4_20
              have HSB := HS9_20
              have HBE := HB_20
              rw [hbA] at HZA HNE HGA
              rw [hbB] at HZB HNE HGB
              try rw [hbA]
              try rw [hbB]
              clear hbA hbB
              obtain ⟨EW, hEW⟩ : ∃ E : World, U_20 = E := ⟨_, rfl⟩
              rw [hEW] at HZA HZB HSA HSB HBE hHeld ⊢
              clear hEW
              obtain ⟨y0, y1, y2, y3, y4, y5⟩ := res_cells HZA.out
              have f0 := mem_free HZA.out 0
              have f1 := mem_free HZA.out 1
              have f2 := mem_free HZA.out 2
              have f3 := mem_free HZA.out 3
              have f4 := mem_free HZA.out 4
              have f5 := mem_free HZA.out 5
              obtain ⟨U2, hU2⟩ : ∃ U2 : World, set6 EW bA (.slice aa R.mem.arrays.length ac) (.slice ara R.mem.shared.length arc) (.slice aoa R.out.length aoc) (.int .i64 (R.rd : Int)) (.int .i64 (R.st : Int)) (.int .i64 R.err) = U2 := ⟨_, rfl⟩
              have HFAR2 : Hid (∀ k, k ≠ bA → U2.heap[k]? = EW.heap[k]?) := fun k hk => by rw [← hU2]; exact set6_far hk
              have HA2' : Hid (U2.heap[bA]? = some (Res.obj R aa ac ara arc aoa aoc)) := by show _ = _; rw [← hU2]; exact set6_at HZA.out
              have HZB2 : Hid (U2.heap[bB]? = some zRes) := (HFAR2.out bB (fun e => HNE.out e.symm)).trans HZB.out
              have HBU2 : Hid (Below E0.heap.size E0 U2) := by show Below _ _ _; rw [← hU2]; exact set6_below HBE.out HGA.out
              have HSA2 := Lib.hid (ResAt.stored HZA.out HFAR2.out HSA.out.1 HSA.out.2)
              have HSB2 := Lib.hid (ResAt.stored HZA.out HFAR2.out HSB.out.1 HSB.out.2)
              obtain ⟨p0, p1, p2, p3, p4, p5⟩ := res_cells HZB2.out
              have g0 := mem_free HZB2.out 0
              have g1 := mem_free HZB2.out 1
              have g2 := mem_free HZB2.out 2
              have g3 := mem_free HZB2.out 3
              have g4 := mem_free HZB2.out 4
              have g5 := mem_free HZB2.out 5
              obtain ⟨U3, hU3⟩ : ∃ U3 : World, set6 U2 bB (.slice ba S.mem.arrays.length bc) (.slice bra S.mem.shared.length brc) (.slice boa S.out.length boc) (.int .i64 (S.rd : Int)) (.int .i64 (S.st : Int)) (.int .i64 S.err) = U3 := ⟨_, rfl⟩
              have HFAR3 : Hid (∀ k, k ≠ bB → U3.heap[k]? = U2.heap[k]?) := fun k hk => by rw [← hU3]; exact set6_far hk
              have HB3' : Hid (U3.heap[bB]? = some (Res.obj S ba bc bra brc boa boc)) := by show _ = _; rw [← hU3]; exact set6_at HZB2.out
              have HA3' : Hid (U3.heap[bA]? = some (Res.obj R aa ac ara arc aoa aoc)) := (HFAR3.out bA HNE.out).trans HA2'.out
              have HBU3 : Hid (Below E0.heap.size E0 U3) := by show Below _ _ _; rw [← hU3]; exact set6_below HBU2.out HGB.out
              have HSA3 := Lib.hid (ResAt.stored HZB2.out HFAR3.out HSA2.out.1 HSA2.out.2)
              have HSB3 := Lib.hid (ResAt.stored HZB2.out HFAR3.out HSB2.out.1 HSB2.out.2)
              unfold set6 at hU2 hU3
              refine wpAnyH_ready (rs := [12]) (by kernel_rfl) (by simp) (AllReadyH.cons rfl (fun K hK => ?_) AllReadyH.nil)
              go_simp
              try rw [hU2]
              refine hK.out _ _ (HBU2.out) (fun hHeld => ?_)
              clear hK K
              rename_i hOld
              clear hOld
              (try simp only [Act.put, List.getElem_toArray, List.getElem_cons_zero, List.getElem_cons_succ, List.setIfInBounds_toArray, List.set_cons_zero, List.set_cons_succ])
              refine wpAnyH_ready (rs := [13]) (by kernel_rfl) (by simp) (AllReadyH.cons rfl (fun K hK => ?_) AllReadyH.nil)
              go_simp
              try rw [hU3]
              refine hK.out _ _ (HBU3.out) (fun hHeld => ?_)
              clear hK K
              rename_i hOld
              clear hOld
              (try simp only [Act.put, List.getElem_toArray, List.getElem_cons_zero, List.getElem_cons_succ, List.setIfInBounds_toArray, List.set_cons_zero, List.set_cons_succ])
              clear hHeld y0 y1 y2 y3 y4 y5 f0 f1 f2 f3 f4 f5 p0 p1 p2 p3 p4 p5 g0 g1 g2 g3 g4 g5 hU2 hU3
              refine wpAnyH_done (by kernel_rfl) ?_ _
              go_wp2_with fail
              go_meet
              exact ⟨bA, bB, aa, ac, ara, arc, aoa, aoc, ba, bc, bra, brc, boa, boc, rfl, rfl, HA3'.out, HB3'.out, HSA3.out.1, HSB3.out.1, HBU3.out⟩
            · go_simp
              refine hK.out _ _ (mem_then HB_18.out (mem_alloc _ _)) (fun hHeld => ?_)
              clear hK K
              rename_i hOld
              clear hOld
              (try simp only [Act.put, List.getElem_toArray, List.getElem_cons_zero, List.getElem_cons_succ, List.setIfInBounds_toArray, List.set_cons_zero, List.set_cons_succ])
              have hz_21 : (w_18.alloc zRes).heap[w_18.heap.size]? = some zRes := mem_new _ _
              have hzB_21 := mem_alloc w_18 zRes
              generalize hQ_21 : w_18.alloc zRes = U_21 at hz_21 hzB_21 hHeld ⊢
              clear hQ_21
              have HB_21 := Lib.hid (mem_then HB_18.out hzB_21)
              have hlo_21 := mem_lt HZA18.out
              have HNE : Hid (v1.heap.size ≠ w_18.heap.size) := fun e => by omega
              clear hlo_21
              have HGB : Hid (E0.heap.size ≤ w_18.heap.size) := HB_18.out.size
              have HZA21 := Lib.hid (mem_keep HZA18.out hzB_21)
              have HS4_21 := Lib.hid (And.intro (ResAt.below HS4_18.out.1 hzB_21) (MemTy.below HS4_18.out.2 hzB_21))
              have HZB21 := Lib.hid hz_21
              clear hz_21 hzB_21
              refine wpAnyH_ready (rs := [9]) (by kernel_rfl) (by simp) (AllReadyH.cons rfl (fun K hK => ?_) AllReadyH.nil)
              go_simp
              refine (J2.out U_21 HB_21.out).mono ?_
              rintro e w_22 ⟨ba, bc, bra, brc, boa, boc, rfl, hra, hB_22, _, hty⟩
              have HB_22 := Lib.hid (mem_then HB_21.out hB_22)
              have HZA22 := Lib.hid (mem_keep HZA21.out hB_22)
              have HZB22 := Lib.hid (mem_keep HZB21.out hB_22)
              have HS4_22 := Lib.hid (And.intro (ResAt.below HS4_21.out.1 hB_22) (MemTy.below HS4_21.out.2 hB_22))
              have HS9_22 := Lib.hid (And.intro hra hty)
              clear hra hty hB_22
              refine hK.out _ _ (HB_22.out) (fun hHeld => ?_)
              clear hK K
              rename_i hOld
              clear hOld
              (try simp only [Act.put, List.getElem_toArray, List.getElem_cons_zero, List.getElem_cons_succ, List.setIfInBounds_toArray, List.set_cons_zero, List.set_cons_succ])
              obtain ⟨bA, hbA⟩ : ∃ b, v1.heap.size = b := ⟨_, rfl⟩
              obtain ⟨bB, hbB⟩ : ∃ b, w_18.heap.size = b := ⟨_, rfl⟩
              have HZA := HZA22
              have HZB := HZB22
              have HSA := HS4_22
              have HSB := HS9_22
              have HBE := HB_22
              rw [hbA] at HZA HNE HGA
              rw [hbB] at HZB HNE HGB
              try rw [hbA]
              try rw [hbB]
              clear hbA hbB
              obtain ⟨EW, hEW⟩ : ∃ E : World, w_22 = E := ⟨_, rfl⟩
              rw [hEW] at HZA HZB HSA HSB HBE hHeld ⊢
              clear hEW
              obtain ⟨y0, y1, y2, y3, y4, y5⟩ := res_cells HZA.out
              have f0 := mem_free HZA.out 0
              have f1 := mem_free HZA.out 1
              have f2 := mem_free HZA.out 2
              have f3 := mem_free HZA.out 3
              have f4 := mem_free HZA.out 4
              have f5 := mem_free HZA.out 5
              obtain ⟨U2, hU2⟩ : ∃ U2 : World, set6 EW bA (.slice aa R.mem.arrays.length ac) (.slice ara R.mem.shared.length arc) (.slice aoa R.out.length aoc) (.int .i64 (R.rd : Int)) (.int .i64 (R.st : Int)) (.int .i64 R.err) = U2 := ⟨_, rfl⟩
              have HFAR2 : Hid (∀ k, k ≠ bA → U2.heap[k]? = EW.heap[k]?) := fun k hk => by rw [← hU2]; exact set6_far hk
              have HA2' : Hid (U2.heap[bA]? = some (Res.obj R aa ac ara arc aoa aoc)) := by show _ = _; rw [← hU2]; exact set6_at HZA.out
              have HZB2 : Hid (U2.heap[bB]? = some zRes) := (HFAR2.out bB (fun e => HNE.out e.symm)).trans HZB.out
              have HBU2 : Hid (Below E0.heap.size E0 U2) := by show Below _ _ _; rw [← hU2]; exact set6_below HBE.out HGA.out
              have HSA2 := Lib.hid (ResAt.stored HZA.out HFAR2.out HSA.out.1 HSA.out.2)
              have HSB2 := Lib.hid (ResAt.stored HZA.out HFAR2.out HSB.out.1 HSB.out.2)
              obtain ⟨p0, p1, p2, p3, p4, p5⟩ := res_cells HZB2.out
              have g0 := mem_free HZB2.out 0
              have g1 := mem_free HZB2.out 1
              have g2 := mem_free HZB2.out 2
              have g3 := mem_free HZB2.out 3
              have g4 := mem_free HZB2.out 4
              have g5 := mem_free HZB2.out 5
              obtain ⟨U3, hU3⟩ : ∃ U3 : World, set6 U2 bB (.slice ba S.mem.arrays.length bc) (.slice bra S.mem.shared.length brc) (.slice boa S.out.length boc) (.int .i64 (S.rd : Int)) (.int .i64 (S.st : Int)) (.int .i64 S.err) = U3 := ⟨_, rfl⟩
              have HFAR3 : Hid (∀ k, k ≠ bB → U3.heap[k]? = U2.heap[k]?) := fun k hk => by rw [← hU3]; exact set6_far hk
              have HB3' : Hid (U3.heap[bB]? = some (Res.obj S ba bc bra brc boa boc)) := by show _ = _; rw [← hU3]; exact set6_at HZB2.out
              have HA3' : Hid (U3.heap[bA]? = some (Res.obj R aa ac ara arc aoa aoc)) := (HFAR3.out bA HNE.out).trans HA2'.out
              have HBU3 : Hid (Below E0.heap.size E0 U3) := by show Below _ _ _; rw [← hU3]; exact set6_below HBU2.out HGB.out
              have HSA3 := Lib.hid (ResAt.stored HZB2.out HFAR3.out HSA2.out.1 HSA2.out.2)
              have HSB3 := Lib.hid (ResAt.stored HZB2.out HFAR3.out HSB2.out.1 HSB2.out.2)
              unfold set6 at hU2 hU3
              refine wpAnyH_ready (rs := [12]) (by kernel_rfl) (by simp) (AllReadyH.cons rfl (fun K hK => ?_) AllReadyH.nil)
              go_simp
              try rw [hU2]
              refine hK.out _ _ (HBU2.out) (fun hHeld => ?_)
              clear hK K
              rename_i hOld
              clear hOld
              (try simp only [Act.put, List.getElem_toArray, List.getElem_cons_zero, List.getElem_cons_succ, List.setIfInBounds_toArray, List.set_cons_zero, List.set_cons_succ])
              refine wpAnyH_ready (rs := [13]) (by kernel_rfl) (by simp) (AllReadyH.cons rfl (fun K hK => ?_) AllReadyH.nil)
              go_simp
              try rw [hU3]
              refine hK.out _ _ (HBU3.out) (fun hHeld => ?_)
              clear hK K
              rename_i hOld
              clear hOld
              (try simp only [Act.put, List.getElem_toArray, List.getElem_cons_zero, List.getElem_cons_succ, List.setIfInBounds_toArray, List.set_cons_zero, List.set_cons_succ])
              clear hHeld y0 y1 y2 y3 y4 y5 f0 f1 f2 f3 f4 f5 p0 p1 p2 p3 p4 p5 g0 g1 g2 g3 g4 g5 hU2 hU3
              refine wpAnyH_done (by kernel_rfl) ?_ _
              go_wp2_with fail
              go_meet
              exact ⟨bA, bB, aa, ac, ara, arc, aoa, aoc, ba, bc, bra, brc, boa, boc, rfl, rfl, HA3'.out, HB3'.out, HSA3.out.1, HSB3.out.1, HBU3.out⟩
          · go_simp
            refine hK.out _ _ (mem_then HB_17.out (mem_alloc _ _)) (fun hHeld => ?_)
            clear hK K
            rename_i hOld
            clear hOld
            (try simp only [Act.put, List.getElem_toArray, List.getElem_cons_zero, List.getElem_cons_succ, List.setIfInBounds_toArray, List.set_cons_zero, List.set_cons_succ])
            have hz_23 : (U_17.alloc zRes).heap[U_17.heap.size]? = some zRes := mem_new _ _
            have hzB_23 := mem_alloc U_17 zRes
            generalize hQ_23 : U_17.alloc zRes = U_23 at hz_23 hzB_23 hHeld ⊢
            clear hQ_23
            have HB_23 := Lib.hid (mem_then HB_17.out hzB_23)
            have hlo_23 := mem_lt HZA17.out
            have HNE : Hid (v1.heap.size ≠ U_17.heap.size) := fun e => by omega
            clear hlo_23
            have HGB : Hid (E0.heap.size ≤ U_17.heap.size) := HB_17.out.size
            have HZA23 := Lib.hid (mem_keep HZA17.out hzB_23)
            have HZB23 := Lib.hid hz_23
            clear hz_23 hzB_23
            refine wpAnyH_ready (rs := [4]) (by kernel_rfl) (by simp) (AllReadyH.cons rfl (fun K hK => ?_) AllReadyH.nil)
            go_simp
            refine (J1.out U_23 HB_23.out).mono ?_
            rintro e w_24 ⟨aa, ac, ara, arc, aoa, aoc, rfl, hra, hB_24, _, hty⟩
            have HB_24 := Lib.hid (mem_then HB_23.out hB_24)
            have HZA24 := Lib.hid (mem_keep HZA23.out hB_24)
            have HZB24 := Lib.hid (mem_keep HZB23.out hB_24)
            have HS4_24 := Lib.hid (And.intro hra hty)
            clear hra hty hB_24
            refine hK.out _ _ (HB_24.out) (fun hHeld => ?_)
            clear hK K
            rename_i hOld
            clear hOld
            (try simp only [Act.put, List.getElem_toArray, List.getElem_cons_zero, List.getElem_cons_succ, List.setIfInBounds_toArray, List.set_cons_zero, List.set_cons_succ])
            refine wpAnyH_ready (rs := [9]) (by kernel_rfl) (by simp) (AllReadyH.cons rfl (fun K hK => ?_) AllReadyH.nil)
            go_simp
            refine (J2.out w_24 HB_24.out).mono ?_
            rintro e w_25 ⟨ba, bc, bra, brc, boa, boc, rfl, hra, hB_25, _, hty⟩
            have HB_25 := Lib.hid (mem_then HB_24.out hB_25)
            have HZA25 := Lib.hid (mem_keep HZA24.out hB_25)
            have HZB25 := Lib.hid (mem_keep HZB24.out hB_25)
            have HS4_25 := Lib.hid (And.intro (ResAt.below HS4_24.out.1 hB_25) (MemTy.below HS4_24.out.2 hB_25))
            have HS9_25 := Lib.hid (And.intro hra hty)
            clear hra hty hB_25
            refine hK.out _ _ (HB_25.out) (fun hHeld => ?_)
            clear hK K
            rename_i hOld
            clear hOld
            (try simp only [Act.put, List.getElem_toArray, List.getElem_cons_zero, List.getElem_cons_succ, List.setIfInBounds_toArray, List.set_cons_zero, List.set_cons_succ])
            obtain ⟨bA, hbA⟩ : ∃ b, v1.heap.size = b := ⟨_, rfl⟩
            obtain ⟨bB, hbB⟩ : ∃ b, U_17.heap.size = b := ⟨_, rfl⟩
            have HZA := HZA25
            have HZB := HZB25
            have HSA := HS4_25
            have HSB := HS9_25
            have HBE := HB_25
            rw [hbA] at HZA HNE HGA
            rw [hbB] at HZB HNE HGB
            try rw [hbA]
            try rw [hbB]
            clear hbA hbB
            obtain ⟨EW, hEW⟩ : ∃ E : World, w_25 = E := ⟨_, rfl⟩
            rw [hEW] at HZA HZB HSA HSB HBE hHeld ⊢
            clear hEW
            obtain ⟨y0, y1, y2, y3, y4, y5⟩ := res_cells HZA.out
            have f0 := mem_free HZA.out 0
            have f1 := mem_free HZA.out 1
            have f2 := mem_free HZA.out 2
            have f3 := mem_free HZA.out 3
            have f4 := mem_free HZA.out 4
            have f5 := mem_free HZA.out 5
            obtain ⟨U2, hU2⟩ : ∃ U2 : World, set6 EW bA (.slice aa R.mem.arrays.length ac) (.slice ara R.mem.shared.length arc) (.slice aoa R.out.length aoc) (.int .i64 (R.rd : Int)) (.int .i64 (R.st : Int)) (.int .i64 R.err) = U2 := ⟨_, rfl⟩
            have HFAR2 : Hid (∀ k, k ≠ bA → U2.heap[k]? = EW.heap[k]?) := fun k hk => by rw [← hU2]; exact set6_far hk
            have HA2' : Hid (U2.heap[bA]? = some (Res.obj R aa ac ara arc aoa aoc)) := by show _ = _; rw [← hU2]; exact set6_at HZA.out
            have HZB2 : Hid (U2.heap[bB]? = some zRes) := (HFAR2.out bB (fun e => HNE.out e.symm)).trans HZB.out
            have HBU2 : Hid (Below E0.heap.size E0 U2) := by show Below _ _ _; rw [← hU2]; exact set6_below HBE.out HGA.out
            have HSA2 := Lib.hid (ResAt.stored HZA.out HFAR2.out HSA.out.1 HSA.out.2)
            have HSB2 := Lib.hid (ResAt.stored HZA.out HFAR2.out HSB.out.1 HSB.out.2)
            obtain ⟨p0, p1, p2, p3, p4, p5⟩ := res_cells HZB2.out
            have g0 := mem_free HZB2.out 0
            have g1 := mem_free HZB2.out 1
            have g2 := mem_free HZB2.out 2
            have g3 := mem_free HZB2.out 3
            have g4 := mem_free HZB2.out 4
            have g5 := mem_free HZB2.out 5
            obtain ⟨U3, hU3⟩ : ∃ U3 : World, set6 U2 bB (.slice ba S.mem.arrays.length bc) (.slice bra S.mem.shared.length brc) (.slice boa S.out.length boc) (.int .i64 (S.rd : Int)) (.int .i64 (S.st : Int)) (.int .i64 S.err) = U3 := ⟨_, rfl⟩
            have HFAR3 : Hid (∀ k, k ≠ bB → U3.heap[k]? = U2.heap[k]?) := fun k hk => by rw [← hU3]; exact set6_far hk
            have HB3' : Hid (U3.heap[bB]? = some (Res.obj S ba bc bra brc boa boc)) := by show _ = _; rw [← hU3]; exact set6_at HZB2.out
            have HA3' : Hid (U3.heap[bA]? = some (Res.obj R aa ac ara arc aoa aoc)) := (HFAR3.out bA HNE.out).trans HA2'.out
            have HBU3 : Hid (Below E0.heap.size E0 U3) := by show Below _ _ _; rw [← hU3]; exact set6_below HBU2.out HGB.out
            have HSA3 := Lib.hid (ResAt.stored HZB2.out HFAR3.out HSA2.out.1 HSA2.out.2)
            have HSB3 := Lib.hid (ResAt.stored HZB2.out HFAR3.out HSB2.out.1 HSB2.out.2)
            unfold set6 at hU2 hU3
            refine wpAnyH_ready (rs := [12]) (by kernel_rfl) (by simp) (AllReadyH.cons rfl (fun K hK => ?_) AllReadyH.nil)
            go_simp
            try rw [hU2]
            refine hK.out _ _ (HBU2.out) (fun hHeld => ?_)
            clear hK K
            rename_i hOld
            clear hOld
            (try simp only [Act.put, List.getElem_toArray, List.getElem_cons_zero, List.getElem_cons_succ, List.setIfInBounds_toArray, List.set_cons_zero, List.set_cons_succ])
            refine wpAnyH_ready (rs := [13]) (by kernel_rfl) (by simp) (AllReadyH.cons rfl (fun K hK => ?_) AllReadyH.nil)
            go_simp
            try rw [hU3]
            refine hK.out _ _ (HBU3.out) (fun hHeld => ?_)
            clear hK K
            rename_i hOld
            clear hOld
            (try simp only [Act.put, List.getElem_toArray, List.getElem_cons_zero, List.getElem_cons_succ, List.setIfInBounds_toArray, List.set_cons_zero, List.set_cons_succ])
            clear hHeld y0 y1 y2 y3 y4 y5 f0 f1 f2 f3 f4 f5 p0 p1 p2 p3 p4 p5 g0 g1 g2 g3 g4 g5 hU2 hU3
            refine wpAnyH_done (by kernel_rfl) ?_ _
            go_wp2_with fail
            go_meet
            exact ⟨bA, bB, aa, ac, ara, arc, aoa, aoc, ba, bc, bra, brc, boa, boc, rfl, rfl, HA3'.out, HB3'.out, HSA3.out.1, HSB3.out.1, HBU3.out⟩
        · go_simp
          refine hK.out _ _ (mem_then HHV.out (mem_alloc _ _)) (fun hHeld => ?_)
          clear hK K
          rename_i hOld
          clear hOld
          (try simp only [Act.put, List.getElem_toArray, List.getElem_cons_zero, List.getElem_cons_succ, List.setIfInBounds_toArray, List.set_cons_zero, List.set_cons_succ])
          have hz_26 : (v1.alloc zRes).heap[v1.heap.size]? = some zRes := mem_new _ _
          have hzB_26 := mem_alloc v1 zRes
          generalize hQ_26 : v1.alloc zRes = U_26 at hz_26 hzB_26 hHeld ⊢
          clear hQ_26
          have HB_26 := Lib.hid (mem_then HHV.out hzB_26)
          have HGB : Hid (E0.heap.size ≤ v1.heap.size) := HHV.out.size
          have HZB26 := Lib.hid hz_26
          clear hz_26 hzB_26
          refine wpAnyH_ready (rs := [4, 10]) (by kernel_rfl) (by simp) (AllReadyH.cons rfl (fun K hK => ?_) (AllReadyH.cons rfl (fun K hK => ?_) AllReadyH.nil))
          · go_simp
            refine (J1.out U_26 HB_26.out).mono ?_
            rintro e w_27 ⟨aa, ac, ara, arc, aoa, aoc, rfl, hra, hB_27, _, hty⟩
            have HB_27 := Lib.hid (mem_then HB_26.out hB_27)
            have HZB27 := Lib.hid (mem_keep HZB26.out hB_27)
            have HS4_27 := Lib.hid (And.intro hra hty)
            clear hra hty hB_27
            refine hK.out _ _ (HB_27.out) (fun hHeld => ?_)
            clear hK K
            rename_i hOld
            clear hOld
            (try simp only [Act.put, List.getElem_toArray, List.getElem_cons_zero, List.getElem_cons_succ, List.setIfInBounds_toArray, List.set_cons_zero, List.set_cons_succ])
            refine wpAnyH_ready (rs := [9, 10]) (by kernel_rfl) (by simp) (AllReadyH.cons rfl (fun K hK => ?_) (AllReadyH.cons rfl (fun K hK => ?_) AllReadyH.nil))
            · go_simp
              refine (J2.out w_27 HB_27.out).mono ?_
              rintro e w_28 ⟨ba, bc, bra, brc, boa, boc, rfl, hra, hB_28, _, hty⟩
              have HB_28 := Lib.hid (mem_then HB_27.out hB_28)
              have HZB28 := Lib.hid (mem_keep HZB27.out hB_28)
              have HS4_28 := Lib.hid (And.intro (ResAt.below HS4_27.out.1 hB_28) (MemTy.below HS4_27.out.2 hB_28))
              have HS9_28 := Lib.hid (And.intro hra hty)
              clear hra hty hB_28
              refine hK.out _ _ (HB_28.out) (fun hHeld => ?_)
              clear hK K
              rename_i hOld
              clear hOld
              (try simp only [Act.put, List.getElem_toArray, List.getElem_cons_zero, List.getElem_cons_succ, List.setIfInBounds_toArray, List.set_cons_zero, List.set_cons_succ])
              refine wpAnyH_ready (rs := [10]) (by kernel_rfl) (by simp) (AllReadyH.cons rfl (fun K hK => ?_) AllReadyH.nil)
              go_simp
              refine hK.out _ _ (mem_then HB_28.out (mem_alloc _ _)) (fun hHeld => ?_)
              clear hK K
              rename_i hOld
              clear hOld
              (try simp only [Act.put, List.getElem_toArray, List.getElem_cons_zero, List.getElem_cons_succ, List.setIfInBounds_toArray, List.set_cons_zero, List.set_cons_succ])
              have hz_29 : (w_28.alloc zRes).heap[w_28.heap.size]? = some zRes := mem_new _ _
              have hzB_29 := mem_alloc w_28 zRes
              generalize hQ_29 : w_28.alloc zRes = U_29 at hz_29 hzB_29 hHeld ⊢
              clear hQ_29
              have HB_29 := Lib.hid (mem_then HB_28.out hzB_29)
              have hlo_29 := mem_lt HZB28.out
              have HNE : Hid (w_28.heap.size ≠ v1.heap.size) := fun e => by omega
              clear hlo_29
              have HGA : Hid (E0.heap.size ≤ w_28.heap.size) := HB_28.out.size
              have HZB29 := Lib.hid (mem_keep HZB28.out hzB_29)
              have HS4_29 := Lib.hid (And.intro (ResAt.below HS4_28.out.1 hzB_29) (MemTy.below HS4_28.out.2 hzB_29))
              have HS9_29 := Lib.hid (And.intro (ResAt.below HS9_28.out.1 hzB_29) (MemTy.below HS9_28.out.2 hzB_29))
              have HZA29 := Lib.hid hz_29
              clear hz_29 hzB_29
              obtain ⟨bA, hbA⟩ : ∃ b, w_28.heap.size = b := ⟨_, rfl⟩
              obtain ⟨bB, hbB⟩ : ∃ b, v1.heap.size = b := ⟨_, rfl⟩
              have HZA := HZA29
              have HZB := HZB29
              have HSA := HS4_29
              have HSB := HS9_29
              have HBE := HB_29
              rw [hbA] at HZA HNE HGA
              rw [hbB] at HZB HNE HGB
              try rw [hbA]
              try rw [hbB]
              clear hbA hbB
              obtain ⟨EW, hEW⟩ : ∃ E : World, U_29 = E := ⟨_, rfl⟩
              rw [hEW] at HZA HZB HSA HSB HBE hHeld ⊢
              clear hEW
              obtain ⟨y0, y1, y2, y3, y4, y5⟩ := res_cells HZA.out
              have f0 := mem_free HZA.out 0
              have f1 := mem_free HZA.out 1
              have f2 := mem_free HZA.out 2
              have f3 := mem_free HZA.out 3
              have f4 := mem_free HZA.out 4
              have f5 := mem_free HZA.out 5
              obtain ⟨U2, hU2⟩ : ∃ U2 : World, set6 EW bA (.slice aa R.mem.arrays.length ac) (.slice ara R.mem.shared.length arc) (.slice aoa R.out.length aoc) (.int .i64 (R.rd : Int)) (.int .i64 (R.st : Int)) (.int .i64 R.err) = U2 := ⟨_, rfl⟩
              have HFAR2 : Hid (∀ k, k ≠ bA → U2.heap[k]? = EW.heap[k]?) := fun k hk => by rw [← hU2]; exact set6_far hk
              have HA2' : Hid (U2.heap[bA]? = some (Res.obj R aa ac ara arc aoa aoc)) := by show _ = _; rw [← hU2]; exact set6_at HZA.out
              have HZB2 : Hid (U2.heap[bB]? = some zRes) := (HFAR2.out bB (fun e => HNE.out e.symm)).trans HZB.out
              have HBU2 : Hid (Below E0.heap.size E0 U2) := by show Below _ _ _; rw [← hU2]; exact set6_below HBE.out HGA.out
              have HSA2 := Lib.hid (ResAt.stored HZA.out HFAR2.out HSA.out.1 HSA.out.2)
              have HSB2 := Lib.hid (ResAt.stored HZA.out HFAR2.out HSB.out.1 HSB.out.2)
              obtain ⟨p0, p1, p2, p3, p4, p5⟩ := res_cells HZB2.out
              have g0 := mem_free HZB2.out 0
              have g1 := mem_free HZB2.out 1
              have g2 := mem_free HZB2.out 2
              have g3 := mem_free HZB2.out 3
              have g4 := mem_free HZB2.out 4
              have g5 := mem_free HZB2.out 5
              obtain ⟨U3, hU3⟩ : ∃ U3 : World, set6 U2 bB (.slice ba S.mem.arrays.length bc) (.slice bra S.mem.shared.length brc) (.slice boa S.out.length boc) (.int .i64 (S.rd : Int)) (.int .i64 (S.st : Int)) (.int .i64 S.err) = U3 := ⟨_, rfl⟩
              have HFAR3 : Hid (∀ k, k ≠ bB → U3.heap[k]? = U2.heap[k]?) := fun k hk => by rw [← hU3]; exact set6_far hk
              have HB3' : Hid (U3.heap[bB]? = some (Res.obj S ba bc bra brc boa boc)) := by show _ = _; rw [← hU3]; exact set6_at HZB2.out
              have HA3' : Hid (U3.heap[bA]? = some (Res.obj R aa ac ara arc aoa aoc)) := (HFAR3.out bA HNE.out).trans HA2'.out
              have HBU3 : Hid (Below E0.heap.size E0 U3) := by show Below _ _ _; rw [← hU3]; exact set6_below HBU2.out HGB.out
              have HSA3 := Lib.hid (ResAt.stored HZB2.out HFAR3.out HSA2.out.1 HSA2.out.2)
              have HSB3 := Lib.hid (ResAt.stored HZB2.out HFAR3.out HSB2.out.1 HSB2.out.2)
              unfold set6 at hU2 hU3
              refine wpAnyH_ready (rs := [12]) (by kernel_rfl) (by simp) (AllReadyH.cons rfl (fun K hK => ?_) AllReadyH.nil)
              go_simp
              try rw [hU2]
              refine hK.out _ _ (HBU2.out) (fun hHeld => ?_)
              clear hK K
              rename_i hOld
              clear hOld
              (try simp only [Act.put, List.getElem_toArray, List.getElem_cons_zero, List.getElem_cons_succ, List.setIfInBounds_toArray, List.set_cons_zero, List.set_cons_succ])
              refine wpAnyH_ready (rs := [13]) (by kernel_rfl) (by simp) (AllReadyH.cons rfl (fun K hK => ?_) AllReadyH.nil)
              go_simp
              try rw [hU3]
              refine hK.out _ _ (HBU3.out) (fun hHeld => ?_)
              clear hK K
              rename_i hOld
              clear hOld
              (try simp only [Act.put, List.getElem_toArray, List.getElem_cons_zero, List.getElem_cons_succ, List.setIfInBounds_toArray, List.set_cons_zero, List.set_cons_succ])
              clear hHeld y0 y1 y2 y3 y4 y5 f0 f1 f2 f3 f4 f5 p0 p1 p2 p3 p4 p5 g0 g1 g2 g3 g4 g5 hU2 hU3
              refine wpAnyH_done (by kernel_rfl) ?_ _
              go_wp2_with fail
              go_meet
              exact ⟨bA, bB, aa, ac, ara, arc, aoa, aoc, ba, bc, bra, brc, boa, boc, rfl, rfl, HA3'.out, HB3'.out, HSA3.out.1, HSB3.out.1, HBU3.out⟩
            · go_simp
              refine hK.out _ _ (mem_then HB_27.out (mem_alloc _ _)) (fun hHeld => ?_)
              clear hK K
              rename_i hOld
              clear hOld
              (try simp only [Act.put, List.getElem_toArray, List.getElem_cons_zero, List.getElem_cons_succ, List.setIfInBounds_toArray, List.set_cons_zero, List.set_cons_succ])
              have hz_30 : (w_27.alloc zRes).heap[w_27.heap.size]? = some zRes := mem_new _ _
              have hzB_30 := mem_alloc w_27 zRes
              generalize hQ_30 : w_27.alloc zRes = U_30 at hz_30 hzB_30 hHeld ⊢
              clear hQ_30
              have HB_30 := Lib.hid (mem_then HB_27.out hzB_30)
              have hlo_30 := mem_lt HZB27.out
              have HNE : Hid (w_27.heap.size ≠ v1.heap.size) := fun e => by omega
              clear hlo_30
              have HGA : Hid (E0.heap.size ≤ w_27.heap.size) := HB_27.out.size
              have HZB30 := Lib.hid (mem_keep HZB27.out hzB_30)
              have HS4_30 := Lib.hid (And.intro (ResAt.below HS4_27.out.1 hzB_30) (MemTy.below HS4_27.out.2 hzB_30))
              have HZA30 := Lib.hid hz_30
              clear hz_30 hzB_30
              refine wpAnyH_ready (rs := [9]) (by kernel_rfl) (by simp) (AllReadyH.cons rfl (fun K hK => ?_) AllReadyH.nil)
              go_simp
              refine (J2.out U_30 HB_30.out).mono ?_
              rintro e w_31 ⟨ba, bc, bra, brc, boa, boc, rfl, hra, hB_31, _, hty⟩
              have HB_31 := Lib.hid (mem_then HB_30.out hB_31)
              have HZA31 := Lib.hid (mem_keep HZA30.out hB_31)
              have HZB31 := Lib.hid (mem_keep HZB30.out hB_31)
              have HS4_31 := Lib.hid (And.intro (ResAt.below HS4_30.out.1 hB_31) (MemTy.below HS4_30.out.2 hB_31))
              have HS9_31 := Lib.hid (And.intro hra hty)
              clear hra hty hB_31
              refine hK.out _ _ (HB_31.out) (fun hHeld => ?_)
              clear hK K
              rename_i hOld
              clear hOld
              (try simp only [Act.put, List.getElem_toArray, List.getElem_cons_zero, List.getElem_cons_succ, List.setIfInBounds_toArray, List.set_cons_zero, List.set_cons_succ])
              obtain ⟨bA, hbA⟩ : ∃ b, w_27.heap.size = b := ⟨_, rfl⟩
              obtain ⟨bB, hbB⟩ : ∃ b, v1.heap.size = b := ⟨_, rfl⟩
              have HZA := HZA31
              have HZB := HZB31
              have HSA := HS4_31
              have HSB := HS9_31
              have HBE := HB_31
              rw [hbA] at HZA HNE HGA
              rw [hbB] at HZB HNE HGB
              try rw [hbA]
              try rw [hbB]
              clear hbA hbB
              obtain ⟨EW, hEW⟩ : ∃ E : World, w_31 = E := ⟨_, rfl⟩
              rw [hEW] at HZA HZB HSA HSB HBE hHeld ⊢
              clear hEW
              obtain ⟨y0, y1, y2, y3, y4, y5⟩ := res_cells HZA.out
              have f0 := mem_free HZA.out 0
              have f1 := mem_free HZA.out 1
              have f2 := mem_free HZA.out 2
              have f3 := mem_free HZA.out 3
              have f4 := mem_free HZA.out 4
              have f5 := mem_free HZA.out 5
              obtain ⟨U2, hU2⟩ : ∃ U2 : World, set6 EW bA (.slice aa R.mem.arrays.length ac) (.slice ara R.mem.shared.length arc) (.slice aoa R.out.length aoc) (.int .i64 (R.rd : Int)) (.int .i64 (R.st : Int)) (.int .i64 R.err) = U2 := ⟨_, rfl⟩
              have HFAR2 : Hid (∀ k, k ≠ bA → U2.heap[k]? = EW.heap[k]?) := fun k hk => by rw [← hU2]; exact set6_far hk
              have HA2' : Hid (U2.heap[bA]? = some (Res.obj R aa ac ara arc aoa aoc)) := by show _ = _; rw [← hU2]; exact set6_at HZA.out
              have HZB2 : Hid (U2.heap[bB]? = some zRes) := (HFAR2.out bB (fun e => HNE.out e.symm)).trans HZB.out
              have HBU2 : Hid (Below E0.heap.size E0 U2) := by show Below _ _ _; rw [← hU2]; exact set6_below HBE.out HGA.out
              have HSA2 := Lib.hid (ResAt.stored HZA.out HFAR2.out HSA.out.1 HSA.out.2)
              have HSB2 := Lib.hid (ResAt.stored HZA.out HFAR2.out HSB.out.1 HSB.out.2)
              obtain ⟨p0, p1, p2, p3, p4, p5⟩ := res_cells HZB2.out
              have g0 := mem_free HZB2.out 0
              have g1 := mem_free HZB2.out 1
              have g2 := mem_free HZB2.out 2
              have g3 := mem_free HZB2.out 3
              have g4 := mem_free HZB2.out 4
              have g5 := mem_free HZB2.out 5
              obtain ⟨U3, hU3⟩ : ∃ U3 : World, set6 U2 bB (.slice ba S.mem.arrays.length bc) (.slice bra S.mem.shared.length brc) (.slice boa S.out.length boc) (.int .i64 (S.rd : Int)) (.int .i64 (S.st : Int)) (.int .i64 S.err) = U3 := ⟨_, rfl⟩
              have HFAR3 : Hid (∀ k, k ≠ bB → U3.heap[k]? = U2.heap[k]?) := fun k hk => by rw [← hU3]; exact set6_far hk
              have HB3' : Hid (U3.heap[bB]? = some (Res.obj S ba bc bra brc boa boc)) := by show _ = _; rw [← hU3]; exact set6_at HZB2.out
              have HA3' : Hid (U3.heap[bA]? = some (Res.obj R aa ac ara arc aoa aoc)) := (HFAR3.out bA HNE.out).trans HA2'.out
              have HBU3 : Hid (Below E0.heap.size E0 U3) := by show Below _ _ _; rw [← hU3]; exact set6_below HBU2.out HGB.out
              have HSA3 := Lib.hid (ResAt.stored HZB2.out HFAR3.out HSA2.out.1 HSA2.out.2)
              have HSB3 := Lib.hid (ResAt.stored HZB2.out HFAR3.out HSB2.out.1 HSB2.out.2)
              unfold set6 at hU2 hU3
              refine wpAnyH_ready (rs := [12]) (by kernel_rfl) (by simp) (AllReadyH.cons rfl (fun K hK => ?_) AllReadyH.nil)
              go_simp
              try rw [hU2]
              refine hK.out _ _ (HBU2.out) (fun hHeld => ?_)
              clear hK K
              rename_i hOld
              clear hOld
              (try simp only [Act.put, List.getElem_toArray, List.getElem_cons_zero, List.getElem_cons_succ, List.setIfInBounds_toArray, List.set_cons_zero, List.set_cons_succ])
              refine wpAnyH_ready (rs := [13]) (by kernel_rfl) (by simp) (AllReadyH.cons rfl (fun K hK => ?_) AllReadyH.nil)
              go_simp
              try rw [hU3]
              refine hK.out _ _ (HBU3.out) (fun hHeld => ?_)
              clear hK K
              rename_i hOld
              clear hOld
              (try simp only [Act.put, List.getElem_toArray, List.getElem_cons_zero, List.getElem_cons_succ, List.setIfInBounds_toArray, List.set_cons_zero, List.set_cons_succ])
              clear hHeld y0 y1 y2 y3 y4 y5 f0 f1 f2 f3 f4 f5 p0 p1 p2 p3 p4 p5 g0 g1 g2 g3 g4 g5 hU2 hU3
              refine wpAnyH_done (by kernel_rfl) ?_ _
              go_wp2_with fail
              go_meet
              exact ⟨bA, bB, aa, ac, ara, arc, aoa, aoc, ba, bc, bra, brc, boa, boc, rfl, rfl, HA3'.out, HB3'.out, HSA3.out.1, HSB3.out.1, HBU3.out⟩
          · go_simp
            refine hK.out _ _ (mem_then HB_26.out (mem_alloc _ _)) (fun hHeld => ?_)
            clear hK K
            rename_i hOld
            clear hOld
            (try simp only [Act.put, List.getElem_toArray, List.getElem_cons_zero, List.getElem_cons_succ, List.setIfInBounds_toArray, List.set_cons_zero, List.set_cons_succ])
            have hz_32 : (U_26.alloc zRes).heap[U_26.heap.size]? = some zRes := mem_new _ _
            have hzB_32 := mem_alloc U_26 zRes
            generalize hQ_32 : U_26.alloc zRes = U_32 at hz_32 hzB_32 hHeld ⊢
            clear hQ_32
            have HB_32 := Lib.hid (mem_then HB_26.out hzB_32)
            have hlo_32 := mem_lt HZB26.out
            have HNE : Hid (U_26.heap.size ≠ v1.heap.size) := fun e => by omega
            clear hlo_32
            have HGA : Hid (E0.heap.size ≤ U_26.heap.size) := HB_26.out.size
            have HZB32 := Lib.hid (mem_keep HZB26.out hzB_32)
            have HZA32 := Lib.hid hz_32
            clear hz_32 hzB_32
            refine wpAnyH_ready (rs := [4]) (by kernel_rfl) (by simp) (AllReadyH.cons rfl (fun K hK => ?_) AllReadyH.nil)
            go_simp
            refine (J1.out U_32 HB_32.out).mono ?_
            rintro e w_33 ⟨aa, ac, ara, arc, aoa, aoc, rfl, hra, hB_33, _, hty⟩
            have HB_33 := Lib.hid (mem_then HB_32.out hB_33)
            have HZA33 := Lib.hid (mem_keep HZA32.out hB_33)
            have HZB33 := Lib.hid (mem_keep HZB32.out hB_33)
            have HS4_33 := Lib.hid (And.intro hra hty)
            clear hra hty hB_33
            refine hK.out _ _ (HB_33.out) (fun hHeld => ?_)
            clear hK K
            rename_i hOld
            clear hOld
            (try simp only [Act.put, List.getElem_toArray, List.getElem_cons_zero, List.getElem_cons_succ, List.setIfInBounds_toArray, List.set_cons_zero, List.set_cons_succ])
            refine wpAnyH_ready (rs := [9]) (by kernel_rfl) (by simp) (AllReadyH.cons rfl (fun K hK => ?_) AllReadyH.nil)
            go_simp
            refine (J2.out w_33 HB_33.out).mono ?_
            rintro e w_34 ⟨ba, bc, bra, brc, boa, boc, rfl, hra, hB_34, _, hty⟩
            have HB_34 := Lib.hid (mem_then HB_33.out hB_34)
            have HZA34 := Lib.hid (mem_keep HZA33.out hB_34)
            have HZB34 := Lib.hid (mem_keep HZB33.out hB_34)
            have HS4_34 := Lib.hid (And.intro (ResAt.below HS4_33.out.1 hB_34) (MemTy.below HS4_33.out.2 hB_34))
            have HS9_34 := Lib.hid (And.intro hra hty)
            clear hra hty hB_34
            refine hK.out _ _ (HB_34.out) (fun hHeld => ?_)
            clear hK K
            rename_i hOld
            clear hOld
            (try simp only [Act.put, List.getElem_toArray, List.getElem_cons_zero, List.getElem_cons_succ, List.setIfInBounds_toArray, List.set_cons_zero, List.set_cons_succ])
            obtain ⟨bA, hbA⟩ : ∃ b, U_26.heap.size = b := ⟨_, rfl⟩
            obtain ⟨bB, hbB⟩ : ∃ b, v1.heap.size = b := ⟨_, rfl⟩
            have HZA := HZA34
            have HZB := HZB34
            have HSA := HS4_34
            have HSB := HS9_34
            have HBE := HB_34
            rw [hbA] at HZA HNE HGA
            rw [hbB] at HZB HNE HGB
            try rw [hbA]
            try rw [hbB]
            clear hbA hbB
            obtain ⟨EW, hEW⟩ : ∃ E : World, w_34 = E := ⟨_, rfl⟩
            rw [hEW] at HZA HZB HSA HSB HBE hHeld ⊢
            clear hEW
            obtain ⟨y0, y1, y2, y3, y4, y5⟩ := res_cells HZA.out
            have f0 := mem_free HZA.out 0
            have f1 := mem_free HZA.out 1
            have f2 := mem_free HZA.out 2
            have f3 := mem_free HZA.out 3
            have f4 := mem_free HZA.out 4
            have f5 := mem_free HZA.out 5
            obtain ⟨U2, hU2⟩ : ∃ U2 : World, set6 EW bA (.slice aa R.mem.arrays.length ac) (.slice ara R.mem.shared.length arc) (.slice aoa R.out.length aoc) (.int .i64 (R.rd : Int)) (.int .i64 (R.st : Int)) (.int .i64 R.err) = U2 := ⟨_, rfl⟩
            have HFAR2 : Hid (∀ k, k ≠ bA → U2.heap[k]? = EW.heap[k]?) := fun k hk => by rw [← hU2]; exact set6_far hk
            have HA2' : Hid (U2.heap[bA]? = some (Res.obj R aa ac ara arc aoa aoc)) := by show _ = _; rw [← hU2]; exact set6_at HZA.out
            have HZB2 : Hid (U2.heap[bB]? = some zRes) := (HFAR2.out bB (fun e => HNE.out e.symm)).trans HZB.out
            have HBU2 : Hid (Below E0.heap.size E0 U2) := by show Below _ _ _; rw [← hU2]; exact set6_below HBE.out HGA.out
            have HSA2 := Lib.hid (ResAt.stored HZA.out HFAR2.out HSA.out.1 HSA.out.2)
            have HSB2 := Lib.hid (ResAt.stored HZA.out HFAR2.out HSB.out.1 HSB.out.2)
            obtain ⟨p0, p1, p2, p3, p4, p5⟩ := res_cells HZB2.out
            have g0 := mem_free HZB2.out 0
            have g1 := mem_free HZB2.out 1
            have g2 := mem_free HZB2.out 2
            have g3 := mem_free HZB2.out 3
            have g4 := mem_free HZB2.out 4
            have g5 := mem_free HZB2.out 5
            obtain ⟨U3, hU3⟩ : ∃ U3 : World, set6 U2 bB (.slice ba S.mem.arrays.length bc) (.slice bra S.mem.shared.length brc) (.slice boa S.out.length boc) (.int .i64 (S.rd : Int)) (.int .i64 (S.st : Int)) (.int .i64 S.err) = U3 := ⟨_, rfl⟩
            have HFAR3 : Hid (∀ k, k ≠ bB → U3.heap[k]? = U2.heap[k]?) := fun k hk => by rw [← hU3]; exact set6_far hk
            have HB3' : Hid (U3.heap[bB]? = some (Res.obj S ba bc bra brc boa boc)) := by show _ = _; rw [← hU3]; exact set6_at HZB2.out
            have HA3' : Hid (U3.heap[bA]? = some (Res.obj R aa ac ara arc aoa aoc)) := (HFAR3.out bA HNE.out).trans HA2'.out
            have HBU3 : Hid (Below E0.heap.size E0 U3) := by show Below _ _ _; rw [← hU3]; exact set6_below HBU2.out HGB.out
            have HSA3 := Lib.hid (ResAt.stored HZB2.out HFAR3.out HSA2.out.1 HSA2.out.2)
            have HSB3 := Lib.hid (ResAt.stored HZB2.out HFAR3.out HSB2.out.1 HSB2.out.2)
            unfold set6 at hU2 hU3
            refine wpAnyH_ready (rs := [12]) (by kernel_rfl) (by simp) (AllReadyH.cons rfl (fun K hK => ?_) AllReadyH.nil)
            go_simp
            try rw [hU2]
            refine hK.out _ _ (HBU2.out) (fun hHeld => ?_)
            clear hK K
            rename_i hOld
            clear hOld
            (try simp only [Act.put, List.getElem_toArray, List.getElem_cons_zero, List.getElem_cons_succ, List.setIfInBounds_toArray, List.set_cons_zero, List.set_cons_succ])
            refine wpAnyH_ready (rs := [13]) (by kernel_rfl) (by simp) (AllReadyH.cons rfl (fun K hK => ?_) AllReadyH.nil)
            go_simp
            try rw [hU3]
            refine hK.out _ _ (HBU3.out) (fun hHeld => ?_)
            clear hK K
            rename_i hOld
            clear hOld
            (try simp only [Act.put, List.getElem_toArray, List.getElem_cons_zero, List.getElem_cons_succ, List.setIfInBounds_toArray, List.set_cons_zero, List.set_cons_succ])
            clear hHeld y0 y1 y2 y3 y4 y5 f0 f1 f2 f3 f4 f5 p0 p1 p2 p3 p4 p5 g0 g1 g2 g3 g4 g5 hU2 hU3
            refine wpAnyH_done (by kernel_rfl) ?_ _
            go_wp2_with fail
            go_meet
            exact ⟨bA, bB, aa, ac, ara, arc, aoa, aoc, ba, bc, bra, brc, boa, boc, rfl, rfl, HA3'.out, HB3'.out, HSA3.out.1, HSB3.out.1, HBU3.out⟩
      case rest =>
        obtain ⟨d1, d2, aa, ac, ra, rc, oa, oc, ba, bc, rb, rd, ob, od, rfl, rfl, hxr, hxs, hrr, hrs, hBE⟩ := hcut
        obtain ⟨G, hGc⟩ : ∃ G : World, G = wc := ⟨_, rfl⟩
        subst hGc
        have HBG := Lib.hid (mem_then HB9.out hBE)
        have HSC := Lib.hid (same_any R S false G aa ra oa ba rb ob ac rc oc bc rd od hrr hrs)
        have HXR := Lib.hid hxr
        have HXS := Lib.hid hxs
        obtain ⟨x0, x1, x2, x3, x4, x5⟩ := res_cells hxr
        obtain ⟨z0, z1, z2, z3, z4, z5⟩ := res_cells hxs
        clear hrr hrs hBE hxr hxs
        by_cases h13 : R.err = 13
        · have b1 : (R.err == 13) = true := by simpa using h13
          have b1' : decide (R.err = 13) = true := decide_eq_true h13
          clear h13
          go_wp2_with fail
          go_ret
          exact ⟨rfl, (HKQ.out G HBG.out).2.2.2.2.2.2.2.2⟩
        · have b1 : (R.err == 13) = false := by simpa using h13
          have b1' : decide (R.err = 13) = false := decide_eq_false h13
          clear h13
          go_wp2_with fail
          clear x0 x1 x2 x3 x4 x5 z0 z1 z2 z3 z4 z5
          refine HSC.out.mono ?_
          rintro e G2 ⟨rfl, hB2⟩
          rw [HSM.out]
          have HB2' := Lib.hid (mem_then HBG.out hB2)
          obtain ⟨x0, x1, x2, x3, x4, x5⟩ := res_cells (mem_keep HXR.out hB2)
          obtain ⟨z0, z1, z2, z3, z4, z5⟩ := res_cells (mem_keep HXS.out hB2)
          clear HSC hB2
          go_wp2_with fail
          go_ret
          exact ⟨rfl, (HKQ.out G2 HB2'.out).2.2.2.2.2.2.2.2⟩
end Go.Proofs.YtgochgcchkdlmaaDoor
