/-
  Contracts: the builder's emit and start (package lower).
-/
import Derived.Test.YtkpdngfkdmllkaaDoorMg38
import Derived.Test.YtkpdngfkdmllkaaDoorMg7
import Derived.Test.YtkpdngfkdmllkaaDoorMg5
namespace Go.Proofs.YtkpdngfkdmllkaaDoor
set_option linter.unusedVariables false
set_option linter.unusedSimpArgs false
open Go.RowKit Go.Maps
set_option maxRecDepth 100000
set_option maxHeartbeats 4000000

theorem Tryd.infoInsL : (Tryd.prog.info? 48).map (fun i => (i.zero, i.size, i.bytes)) = some (some (.agg #[.int .u8 0, .int .i64 0, .int .i64 0, .int .i64 0, .int .i64 0, .string ⟨#[]⟩]), 6, 56) := by kernel_rfl
theorem Tryd.infoPtrL : (Tryd.prog.info? 98).map (fun i => (i.zero, i.size, i.bytes)) = some (some (.pointer none), 1, 8) := by kernel_rfl
abbrev insObj (i : Ins) : Obj := .cells #[.int .u8 i.op, .int .i64 i.dst, .int .i64 i.x, .int .i64 i.y, .int .i64 i.imm, .string i.sym] 48
theorem cur_last {G : List Nat} {i g : Nat} (hg : G[i]? = some g) (hl : G.length = i + 1) : curV G = ptrV g := by
  unfold curV
  rw [List.getLast?_eq_getElem?, hl]
  show (match G[i + 1 - 1]? with | none => _ | some g => _) = _
  rw [Nat.add_sub_cancel, hg]
theorem ins_six {w : World} {b : Nat} {x0 x1 x2 x3 x4 x5 : Value} {T : TypeId} (h : w.heap[b]? = some (.cells #[x0, x1, x2, x3, x4, x5] T)) :
    w.cell? ⟨b, 0, none⟩ = some x0 ∧ w.cell? ⟨b, 1, none⟩ = some x1 ∧ w.cell? ⟨b, 2, none⟩ = some x2 ∧ w.cell? ⟨b, 3, none⟩ = some x3 ∧ w.cell? ⟨b, 4, none⟩ = some x4 ∧ w.cell? ⟨b, 5, none⟩ = some x5 :=
  ⟨mem_cell h 0, mem_cell h 1, mem_cell h 2, mem_cell h 3, mem_cell h 4, mem_cell h 5⟩
section
variable {B N : Nat} {m : BM} {E : LEnv} {w : World} {G : List Nat} {bs : List Blk} {R d : Nat} {V : VM}
theorem emit_any {j g : Nat} {q : Blk} (i : Ins) (h : BdAt B N m E w G bs R d V) (hg : G[j]? = some g) (hl : G.length = j + 1) (hq : bs[j]? = some q) (hi : i.Wf) (hN : N + 1 ≤ 1000000) :
    Calls Tryd.prog 68 #[ptrV m.bb, i.val] w fun e w' => e = .returned (.tuple #[]) ∧ BdAt B (N + 1) m E w' G (bs.set j { q with code := q.code ++ [i] }) R d V ∧ FrL B m w w' := by
  have H := Lib.hid h
  have HG := Lib.hid hg
  have HQ := Lib.hid hq
  have HI := Lib.hid hi
  have hBw := h.lt.2.2.2.2
  obtain ⟨W, hW⟩ : ∃ W : World, w.alloc (insObj i) = W := ⟨_, rfl⟩
  have HBW : Hid (Below w.heap.size w W) := by show Below _ _ _; rw [← hW]; exact mem_alloc _ _
  have HXW : Hid (W.heap[w.heap.size]? = some (insObj i)) := by show _ = _; rw [← hW]; exact mem_new _ _
  have HA := Lib.hid (h.keep HBW.out)
  obtain ⟨a, c, h0, hrow, hgB, hgl, hwf, hiw, hlen⟩ := HA.out.at_ hg hq
  obtain ⟨rv, hb0, _⟩ := HA.out.box
  have hcur := cur_last hg hl
  rw [hcur] at hb0
  have HC : Hid (∀ w', Below W.heap.size W w' → w'.heap[m.bb]? = some (bdObj m R d rv (ptrV g)) ∧ w'.heap[g]? = some (BP.obj ⟨g, ⟨q, a, c⟩⟩) ∧ w'.heap[w.heap.size]? = some (insObj i)) := fun w' hb => ⟨mem_keep hb0 hb, mem_keep h0 hb, mem_keep HXW.out hb⟩
  have HROW := Lib.hid hrow
  have H0 := Lib.hid h0
  have HWF := Lib.hid (And.intro hwf hiw)
  have hNl := H.out.cap
  obtain ⟨i0, hi0, hz0, hz1, hz2⟩ := info_parts Tryd.infoInsL
  have x6 : W.cell? ⟨m.bb, 6, none⟩ = some (ptrV g) := mem_cell hb0 6
  clear h hg hl hq hi h0 hrow hb0 hwf hiw hcur
  unfold Ins.val
  go_enter Tryd.func68, Tryd.ntmps68
  go_upto_region 1 with fail
  clear x6 hW
  have hD0 : Below W.heap.size W (World.drew W) := (Below.refl _ _).drew
  refine wp_region_z 16 (S := fun w' => w'.cell? ⟨m.bb, 6, none⟩ = some (ptrV g) ∧ w'.cell? ⟨g, 0, none⟩ = some (.slice a q.code.length c) ∧ w'.heap[w.heap.size]? = some (insObj i)) (by kernel_rfl) ⟨mem_cell (HC.out _ hD0).1 6, mem_cell (HC.out _ hD0).2.1 0, (HC.out _ hD0).2.2⟩ (fun hHeld => ?_)
  generalize hwd : World.drew W = v1 at hHeld hD0 ⊢
  clear hwd
  have HD0 := Lib.hid hD0
  clear hD0
  refine wpAnyZ_take (i := 0) (v := ptrV m.bb) rfl (by kernel_rfl) (by kernel_rfl) (by kernel_rfl) (by kernel_rfl) (fun _ _ _ h => h) (Or.inl ⟨by rfl, ?_⟩) (by assumption) ?_
  · intro w' hSw; go_simp
  (try simp only [Act.put, List.getElem_toArray, List.getElem_cons_zero, List.setIfInBounds_toArray, List.set_cons_zero, List.set_cons_succ])
  refine wpAnyZ_take (i := 1) (v := .pointer (some ⟨m.bb, 0, none⟩)) rfl (by kernel_rfl) (by kernel_rfl) (by kernel_rfl) (by kernel_rfl) (fun _ _ _ h => h) (Or.inl ⟨by rfl, ?_⟩) (by assumption) ?_
  · intro w' hSw; go_simp
  (try simp only [Act.put, List.getElem_toArray, List.getElem_cons_zero, List.getElem_cons_succ, List.setIfInBounds_toArray, List.set_cons_zero, List.set_cons_succ])
  refine wpAnyZ_take (i := 2) (v := .pointer (some ⟨m.bb, 6, none⟩)) rfl (by kernel_rfl) (by kernel_rfl) (by kernel_rfl) (by kernel_rfl) (fun _ _ _ h => h) (Or.inl ⟨by rfl, ?_⟩) (by assumption) ?_
  · intro w' hSw; go_simp
  (try simp only [Act.put, List.getElem_toArray, List.getElem_cons_zero, List.getElem_cons_succ, List.setIfInBounds_toArray, List.set_cons_zero, List.set_cons_succ])
  refine wpAnyZ_take (i := 3) (v := ptrV g) rfl (by kernel_rfl) (by kernel_rfl) (by kernel_rfl) (by kernel_rfl) (fun _ _ _ h => h) (Or.inl ⟨by rfl, ?_⟩) (by assumption) ?_
  · intro w' hSw; obtain ⟨z0, z1, z2⟩ := hSw; go_simp
  (try simp only [Act.put, List.getElem_toArray, List.getElem_cons_zero, List.getElem_cons_succ, List.setIfInBounds_toArray, List.set_cons_zero, List.set_cons_succ])
  refine wpAnyZ_take (i := 4) (v := ptrV m.bb) rfl (by kernel_rfl) (by kernel_rfl) (by kernel_rfl) (by kernel_rfl) (fun _ _ _ h => h) (Or.inl ⟨by rfl, ?_⟩) (by assumption) ?_
  · intro w' hSw; go_simp
  (try simp only [Act.put, List.getElem_toArray, List.getElem_cons_zero, List.getElem_cons_succ, List.setIfInBounds_toArray, List.set_cons_zero, List.set_cons_succ])
  refine wpAnyZ_take (i := 5) (v := .pointer (some ⟨m.bb, 0, none⟩)) rfl (by kernel_rfl) (by kernel_rfl) (by kernel_rfl) (by kernel_rfl) (fun _ _ _ h => h) (Or.inl ⟨by rfl, ?_⟩) (by assumption) ?_
  · intro w' hSw; go_simp
  (try simp only [Act.put, List.getElem_toArray, List.getElem_cons_zero, List.getElem_cons_succ, List.setIfInBounds_toArray, List.set_cons_zero, List.set_cons_succ])
  refine wpAnyZ_take (i := 6) (v := .pointer (some ⟨m.bb, 6, none⟩)) rfl (by kernel_rfl) (by kernel_rfl) (by kernel_rfl) (by kernel_rfl) (fun _ _ _ h => h) (Or.inl ⟨by rfl, ?_⟩) (by assumption) ?_
  · intro w' hSw; go_simp
  (try simp only [Act.put, List.getElem_toArray, List.getElem_cons_zero, List.getElem_cons_succ, List.setIfInBounds_toArray, List.set_cons_zero, List.set_cons_succ])
  refine wpAnyZ_take (i := 7) (v := ptrV g) rfl (by kernel_rfl) (by kernel_rfl) (by kernel_rfl) (by kernel_rfl) (fun _ _ _ h => h) (Or.inl ⟨by rfl, ?_⟩) (by assumption) ?_
  · intro w' hSw; obtain ⟨z0, z1, z2⟩ := hSw; go_simp
  (try simp only [Act.put, List.getElem_toArray, List.getElem_cons_zero, List.getElem_cons_succ, List.setIfInBounds_toArray, List.set_cons_zero, List.set_cons_succ])
  refine wpAnyZ_take (i := 8) (v := .pointer (some ⟨g, 0, none⟩)) rfl (by kernel_rfl) (by kernel_rfl) (by kernel_rfl) (by kernel_rfl) (fun _ _ _ h => h) (Or.inl ⟨by rfl, ?_⟩) (by assumption) ?_
  · intro w' hSw; go_simp
  (try simp only [Act.put, List.getElem_toArray, List.getElem_cons_zero, List.getElem_cons_succ, List.setIfInBounds_toArray, List.set_cons_zero, List.set_cons_succ])
  refine wpAnyZ_take (i := 9) (v := .pointer (some ⟨g, 0, none⟩)) rfl (by kernel_rfl) (by kernel_rfl) (by kernel_rfl) (by kernel_rfl) (fun _ _ _ h => h) (Or.inl ⟨by rfl, ?_⟩) (by assumption) ?_
  · intro w' hSw; go_simp
  (try simp only [Act.put, List.getElem_toArray, List.getElem_cons_zero, List.getElem_cons_succ, List.setIfInBounds_toArray, List.set_cons_zero, List.set_cons_succ])
  refine wpAnyZ_take (i := 10) (v := .slice a q.code.length c) rfl (by kernel_rfl) (by kernel_rfl) (by kernel_rfl) (by kernel_rfl) (fun _ _ _ h => h) (Or.inl ⟨by rfl, ?_⟩) (by assumption) ?_
  · intro w' hSw; obtain ⟨z0, z1, z2⟩ := hSw; go_simp
  (try simp only [Act.put, List.getElem_toArray, List.getElem_cons_zero, List.getElem_cons_succ, List.setIfInBounds_toArray, List.set_cons_zero, List.set_cons_succ])
  refine wpAnyZ_take (i := 11) (v := .agg #[.int .u8 i.op, .int .i64 i.dst, .int .i64 i.x, .int .i64 i.y, .int .i64 i.imm, .string i.sym]) rfl (by kernel_rfl) (by kernel_rfl) (by kernel_rfl) (by kernel_rfl) (fun _ _ _ h => h) (Or.inl ⟨by rfl, ?_⟩) (by assumption) ?_
  · intro w' hSw; obtain ⟨_, _, z2⟩ := hSw; obtain ⟨q0, q1, q2, q3, q4, q5⟩ := ins_six z2; go_simp
  (try simp only [Act.put, List.getElem_toArray, List.getElem_cons_zero, List.getElem_cons_succ, List.setIfInBounds_toArray, List.set_cons_zero, List.set_cons_succ])
  refine wpAnyZ_ready (rs := [12]) (by kernel_rfl) (by simp) (AllReadyZ.cons rfl (fun K hK => ?_) AllReadyZ.nil)
  go_simp
  obtain ⟨v2, hv2⟩ : ∃ V : World, v1.alloc (insObj i) = V := ⟨_, rfl⟩
  rw [hv2]
  have hB2 : Below v1.heap.size v1 v2 := by rw [← hv2]; exact mem_alloc _ _
  have HLIT : Hid (∀ (j : Nat) (x : Value), i.cells[j]? = some x → v2.cell? ((⟨v1.heap.size, 0, none⟩ : Addr).add j) = some x) := by
    show ∀ _ _, _
    rw [← hv2]
    exact ins_new v1 i _
  have HB2 := Lib.hid (mem_then HD0.out hB2)
  clear hv2 hB2
  refine hK.out _ _ (⟨mem_cell (HC.out _ HB2.out).1 6, mem_cell (HC.out _ HB2.out).2.1 0, (HC.out _ HB2.out).2.2⟩) (fun hHeld => ?_)
  clear hK K
  rename_i hOld
  clear hOld
  (try simp only [Act.put, List.getElem_toArray, List.getElem_cons_zero, List.getElem_cons_succ, List.setIfInBounds_toArray, List.set_cons_zero, List.set_cons_succ])
  refine wpAnyZ_ready (rs := [13]) (by kernel_rfl) (by simp) (AllReadyZ.cons rfl (fun K hK => ?_) AllReadyZ.nil)
  refine step_append_row rfl (.tmp 14) (.tmp 16) 44 rfl B 48 i0 _ 6 56 Tryd.underlying44 hi0 hz0 hz1 hz2 rfl (by decide) (.slice a q.code.length c) q.code.length (codeCells q.code) (by simp [Act.eval]) (own_below HROW.out HB2.out) ⟨v1.heap.size, 0, none⟩ 1 1 i.cells (by simp [Act.eval]) rfl HLIT.out i.one (by decide) (by unfold maxLen; omega) (by omega) (Nat.le_trans HA.out.lt.2.2.2.2 HB2.out.size) ?_
  intro gb cap w2 hown2 hgrow2 hplace
  have keep9 : ∀ (k : Nat) o, W.heap[k]? = some o → (Value.slice a q.code.length c).ownBlock ≠ some k → w2.heap[k]? = some o := fun k o hk ht => (hgrow2.block k (Nat.lt_of_lt_of_le (mem_lt hk) HB2.out.size) (fun e => ht e.symm)).trans (mem_keep hk HB2.out)
  have hnx : (Value.slice a q.code.length c).ownBlock ≠ some w.heap.size := fun e => by
    obtain ⟨a', c', h1, h2, _⟩ := H.out.at_ HG.out HQ.out
    have h3 := mem_keep h1 HBW.out
    rw [(HC.out W (Below.refl _ _)).2.1] at h3
    have e9 : a = a' := by
      unfold BP.obj at h3
      injection h3 with h3
      injection h3 with h3
      injection h3 with h3
      injection h3 with h3 _
      injection h3
    subst e9
    have h4 : (Value.slice a q.code.length c').ownBlock = some w.heap.size := by
      cases a with
      | none => cases e
      | some d => exact e
    have := (own_lt h2 h4).2
    omega
  have HK := Lib.hid (And.intro (keep9 _ _ (HC.out W (Below.refl _ _)).1 (own_other HROW.out (HC.out W (Below.refl _ _)).1 (by decide))) (And.intro (keep9 _ _ (HC.out W (Below.refl _ _)).2.1 (own_other HROW.out (HC.out W (Below.refl _ _)).2.1 (by decide))) (keep9 _ _ (HC.out W (Below.refl _ _)).2.2 hnx)))
  have HGR := Lib.hid hgrow2
  have HOWN := Lib.hid hown2
  have HPL := Lib.hid hplace
  clear hown2 hgrow2 hplace keep9 hnx
  refine hK.out _ _ (⟨mem_cell HK.out.1 6, mem_cell HK.out.2.1 0, HK.out.2.2⟩) (fun hHeld => ?_)
  clear hK K
  rename_i hOld
  clear hOld
  (try simp only [Act.put, List.getElem_toArray, List.getElem_cons_zero, List.getElem_cons_succ, List.setIfInBounds_toArray, List.set_cons_zero, List.set_cons_succ])
  refine wpAnyZ_ready (rs := [14]) (by kernel_rfl) (by simp) (AllReadyZ.cons rfl (fun K hK => ?_) AllReadyZ.nil)
  go_simp
  refine hK.out _ _ (⟨mem_cell HK.out.1 6, mem_cell HK.out.2.1 0, HK.out.2.2⟩) (fun hHeld => ?_)
  clear hK K
  rename_i hOld
  clear hOld
  (try simp only [Act.put, List.getElem_toArray, List.getElem_cons_zero, List.getElem_cons_succ, List.setIfInBounds_toArray, List.set_cons_zero, List.set_cons_succ])
  refine wpAnyZ_ready (rs := [15]) (by kernel_rfl) (by simp) (AllReadyZ.cons rfl (fun K hK => ?_) AllReadyZ.nil)
  go_simp
  refine hK.out _ _ (⟨mem_cell HK.out.1 6, mem_cell HK.out.2.1 0, HK.out.2.2⟩) (fun hHeld => ?_)
  clear hK K
  rename_i hOld
  clear hOld
  (try simp only [Act.put, List.getElem_toArray, List.getElem_cons_zero, List.getElem_cons_succ, List.setIfInBounds_toArray, List.set_cons_zero, List.set_cons_succ])
  have c0 : w2.cell? ⟨g, 0, none⟩ = some (.slice a q.code.length c) := mem_cell HK.out.2.1 0
  have f0 := mem_free HK.out.2.1 0
  refine wpAnyZ_ready (rs := [16]) (by kernel_rfl) (by simp) (AllReadyZ.last rfl (by decide) (fun K hK => ?_) AllReadyZ.nil)
  go_simp
  refine hK.out _ _ ?_
  clear hK K
  (try simp only [Act.put, List.getElem_toArray, List.getElem_cons_zero, List.getElem_cons_succ, List.setIfInBounds_toArray, List.set_cons_zero, List.set_cons_succ])
  clear c0 f0 hHeld
  refine wpAnyZ_done (by kernel_rfl) ?_ _
  have HPUT : Hid (BdAt B (N + 1) m E (w2.setCell ⟨g, 0, none⟩ (.slice (some ⟨gb, 0, none⟩) (q.code.length + 1) cap)) G (bs.set j { q with code := q.code ++ [i] }) R d V ∧ FrL B m W (w2.setCell ⟨g, 0, none⟩ (.slice (some ⟨gb, 0, none⟩) (q.code.length + 1) cap))) := by
    have hlen2 : (q.code ++ [i]).length = q.code.length + 1 := by simp
    have hgb : gb ≠ g := by
      rintro rfl
      have h1 : w2.heap[gb]? = _ := HK.out.2.1
      exact own_other HOWN.out h1 (by decide) rfl
    have hfar : ∀ k, k ≠ g → (w2.setCell ⟨g, 0, none⟩ (.slice (some ⟨gb, 0, none⟩) (q.code.length + 1) cap)).heap[k]? = w2.heap[k]? := fun k hk => Below.heap_setCell _ _ _ _ hk
    refine HA.out.put (a' := some ⟨gb, 0, none⟩) (c' := cap) HG.out HQ.out H0.out ?_ ?_ ?_ ?_ ?_ ⟨⟨HWF.out.1.k0, HWF.out.1.k1, HWF.out.1.x, HWF.out.1.to, HWF.out.1.els⟩, fun z hz => ?_⟩ (by omega) hN (by rw [hlen2]; omega)
    · rw [mem_set HK.out.2.1]
      unfold BP.obj
      simp
    · show World.ownsRow _ _ _ _ (.slice _ (q.code ++ [i]).length _) (q.code ++ [i]).length _
      rw [hlen2]
      have e9 : codeCells (q.code ++ [i]) = codeCells q.code ++ i.cells := flat_snoc _ _
      rw [e9]
      exact own_keep HOWN.out (fun k hk _ => hfar k (by rintro rfl; cases hk; exact hgb rfl))
    · rcases HPL.out with e | e
      · exact .inl e.symm
      · exact .inr ⟨gb, rfl, Nat.le_trans HB2.out.size e⟩
    · intro k hk hkg hko
      rw [hfar k hkg, HGR.out.block k (Nat.lt_of_lt_of_le hk HB2.out.size) (fun e => hko e.symm)]
      exact HB2.out.block k hk
    · have h1 : Below B W v2 := HB2.out.mono HA.out.lt.2.2.2.2
      exact (h1.grown HGR.out (Nat.le_trans HA.out.lt.2.2.2.2 HB2.out.size) (fun k hk => (own_lt HROW.out hk).1)).setCell (p := ⟨g, 0, none⟩) hgB _
    · rcases List.mem_append.1 hz with hz | hz
      · exact HWF.out.2 z hz
      · obtain rfl : z = i := by simpa using hz
        exact HI.out
  go_wp2_with fail
  go_end0
  exact ⟨rfl, HPUT.out.1, (FrL.of HBW.out hBw).trans HPUT.out.2⟩
theorem start_any (h : BdAt B N m E w G bs R d V) (hN : N + 1 ≤ 1000000) :
    Calls Tryd.prog 39 #[ptrV m.bb] w fun e w' => e = .returned (.int .i64 (bs.length : Int)) ∧ ∃ g, BdAt B (N + 1) m E w' (G ++ [g]) (bs ++ [opnB []]) R d V ∧ FrL B m w w' := by
  have H := Lib.hid h
  have hBw := h.lt.2.2.2.2
  have hlenG := h.len
  have hsm := h.small.2.2.1
  obtain ⟨rv, hb0, hrow⟩ := h.box
  obtain ⟨ra, rc, rfl⟩ := own_val hrow
  obtain ⟨n, hn⟩ : ∃ n, G.length = n := ⟨_, rfl⟩
  rw [hn] at hb0 hrow hlenG
  rw [← hlenG] at hsm ⊢
  have HN := Lib.hid hn
  have hbbl := mem_lt hb0
  obtain ⟨W1, hW1⟩ : ∃ W : World, w.alloc (.cells #[.slice none 0 0, .int .u8 0, .int .i64 0, .int .i64 0, .int .i64 0] 46) = W := ⟨_, rfl⟩
  have hB1 : Below w.heap.size w W1 := by rw [← hW1]; exact mem_alloc _ _
  have e1 : W1.heap[m.bb]? = some (bdObj m R d (.slice ra n rc) (curV G)) := mem_keep hb0 hB1
  have n1 : W1.heap[w.heap.size]? = some (BP.obj ⟨w.heap.size, ⟨opnB [], none, 0⟩⟩) := by rw [← hW1]; exact mem_new _ _
  have hW1s : W1.heap.size = w.heap.size + 1 := by rw [← hW1]; simp
  obtain ⟨W2, hW2⟩ : ∃ W : World, W1.setCell ⟨m.bb, 6, none⟩ (ptrV w.heap.size) = W := ⟨_, rfl⟩
  have far2 : ∀ k, k ≠ m.bb → W2.heap[k]? = W1.heap[k]? := fun k hk => by rw [← hW2]; exact Below.heap_setCell _ _ _ _ hk
  have e2 : W2.heap[m.bb]? = some (bdObj m R d (.slice ra n rc) (ptrV w.heap.size)) := by rw [← hW2, mem_set e1]; rfl
  have n2 : W2.heap[w.heap.size]? = some (BP.obj ⟨w.heap.size, ⟨opnB [], none, 0⟩⟩) := (far2 _ (by omega)).trans n1
  have hW2s : w.heap.size ≤ W2.heap.size := Nat.le_of_lt (mem_lt n2)
  have hrow2 : W2.ownsRow B 98 1 (.slice ra n rc) n (G.map ptrV) := own_keep hrow (fun k hk hl => (far2 k (by rintro rfl; exact own_other hrow hb0 (by decide) hk)).trans (hB1.block k hl))
  have HB2 : Hid (Below B w W2) := by show Below _ _ _; rw [← hW2]; exact (hB1.mono hBw).setCell (p := ⟨m.bb, 6, none⟩) H.out.up.1 _
  have HOLD : Hid (∀ k, k < w.heap.size → k ≠ m.bb → W2.heap[k]? = w.heap[k]?) := fun k hk hne => (far2 k hne).trans (hB1.block k hk)
  have c6 : W1.cell? ⟨m.bb, 6, none⟩ = some (curV G) := mem_cell e1 6
  have f6 := mem_free e1 6
  have HC : Hid (∀ w', Below W2.heap.size W2 w' → w'.heap[m.bb]? = some (bdObj m R d (.slice ra n rc) (ptrV w.heap.size)) ∧ w'.heap[w.heap.size]? = some (BP.obj ⟨w.heap.size, ⟨opnB [], none, 0⟩⟩)) := fun w' hb => ⟨mem_keep e2 hb, mem_keep n2 hb⟩
  have HROW := Lib.hid hrow2
  have HR0 := Lib.hid hrow
  have HB0 := Lib.hid hb0
  have HSZ : Hid (w.heap.size ≤ W2.heap.size ∧ m.bb < W2.heap.size) := ⟨hW2s, mem_lt e2⟩
  obtain ⟨i0, hi0, hz0, hz1, hz2⟩ := info_parts Tryd.infoPtrL
  obtain ⟨W1', hW1'⟩ : ∃ W : World, W = W1 := ⟨_, rfl⟩
  clear h hb0 hrow e1 n1 hW1s far2 e2 n2 hW2s hrow2 hB1 hW1' hn hlenG
  go_enter Tryd.func39, Tryd.ntmps39
  go_upto_region 2 with fail
  clear c6 f6 hW1 hW2
  have hD0 : Below W2.heap.size W2 (World.drew W2) := (Below.refl _ _).drew
  refine wp_region_z 13 (S := fun w' => w'.heap[m.bb]? = some (bdObj m R d (.slice ra n rc) (ptrV w.heap.size))) (by kernel_rfl) (HC.out _ hD0).1 (fun hHeld => ?_)
  generalize hwd : World.drew W2 = v1 at hHeld hD0 ⊢
  clear hwd
  have HD0 := Lib.hid hD0
  clear hD0
  refine wpAnyZ_take (i := 0) (v := ptrV m.bb) rfl (by kernel_rfl) (by kernel_rfl) (by kernel_rfl) (by kernel_rfl) (fun _ _ _ h => h) (Or.inl ⟨by rfl, ?_⟩) (by assumption) ?_
  · intro w' hSw; go_simp
  (try simp only [Act.put, List.getElem_toArray, List.getElem_cons_zero, List.setIfInBounds_toArray, List.set_cons_zero, List.set_cons_succ])
  refine wpAnyZ_take (i := 1) (v := ptrV m.bb) rfl (by kernel_rfl) (by kernel_rfl) (by kernel_rfl) (by kernel_rfl) (fun _ _ _ h => h) (Or.inl ⟨by rfl, ?_⟩) (by assumption) ?_
  · intro w' hSw; go_simp
  (try simp only [Act.put, List.getElem_toArray, List.getElem_cons_zero, List.getElem_cons_succ, List.setIfInBounds_toArray, List.set_cons_zero, List.set_cons_succ])
  refine wpAnyZ_take (i := 2) (v := .pointer (some ⟨m.bb, 0, none⟩)) rfl (by kernel_rfl) (by kernel_rfl) (by kernel_rfl) (by kernel_rfl) (fun _ _ _ h => h) (Or.inl ⟨by rfl, ?_⟩) (by assumption) ?_
  · intro w' hSw; go_simp
  (try simp only [Act.put, List.getElem_toArray, List.getElem_cons_zero, List.getElem_cons_succ, List.setIfInBounds_toArray, List.set_cons_zero, List.set_cons_succ])
  refine wpAnyZ_take (i := 3) (v := .pointer (some ⟨m.bb, 5, none⟩)) rfl (by kernel_rfl) (by kernel_rfl) (by kernel_rfl) (by kernel_rfl) (fun _ _ _ h => h) (Or.inl ⟨by rfl, ?_⟩) (by assumption) ?_
  · intro w' hSw; go_simp
  (try simp only [Act.put, List.getElem_toArray, List.getElem_cons_zero, List.getElem_cons_succ, List.setIfInBounds_toArray, List.set_cons_zero, List.set_cons_succ])
  refine wpAnyZ_take (i := 4) (v := .slice ra n rc) rfl (by kernel_rfl) (by kernel_rfl) (by kernel_rfl) (by kernel_rfl) (fun _ _ _ h => h) (Or.inl ⟨by rfl, ?_⟩) (by assumption) ?_
  · intro w' hSw; have z0 := mem_cell hSw 5; go_simp
  (try simp only [Act.put, List.getElem_toArray, List.getElem_cons_zero, List.getElem_cons_succ, List.setIfInBounds_toArray, List.set_cons_zero, List.set_cons_succ])
  refine wpAnyZ_take (i := 5) (v := ptrV m.bb) rfl (by kernel_rfl) (by kernel_rfl) (by kernel_rfl) (by kernel_rfl) (fun _ _ _ h => h) (Or.inl ⟨by rfl, ?_⟩) (by assumption) ?_
  · intro w' hSw; go_simp
  (try simp only [Act.put, List.getElem_toArray, List.getElem_cons_zero, List.getElem_cons_succ, List.setIfInBounds_toArray, List.set_cons_zero, List.set_cons_succ])
  refine wpAnyZ_take (i := 6) (v := .pointer (some ⟨m.bb, 0, none⟩)) rfl (by kernel_rfl) (by kernel_rfl) (by kernel_rfl) (by kernel_rfl) (fun _ _ _ h => h) (Or.inl ⟨by rfl, ?_⟩) (by assumption) ?_
  · intro w' hSw; go_simp
  (try simp only [Act.put, List.getElem_toArray, List.getElem_cons_zero, List.getElem_cons_succ, List.setIfInBounds_toArray, List.set_cons_zero, List.set_cons_succ])
  refine wpAnyZ_take (i := 7) (v := .pointer (some ⟨m.bb, 6, none⟩)) rfl (by kernel_rfl) (by kernel_rfl) (by kernel_rfl) (by kernel_rfl) (fun _ _ _ h => h) (Or.inl ⟨by rfl, ?_⟩) (by assumption) ?_
  · intro w' hSw; go_simp
  (try simp only [Act.put, List.getElem_toArray, List.getElem_cons_zero, List.getElem_cons_succ, List.setIfInBounds_toArray, List.set_cons_zero, List.set_cons_succ])
  refine wpAnyZ_take (i := 8) (v := ptrV w.heap.size) rfl (by kernel_rfl) (by kernel_rfl) (by kernel_rfl) (by kernel_rfl) (fun _ _ _ h => h) (Or.inl ⟨by rfl, ?_⟩) (by assumption) ?_
  · intro w' hSw; have z0 := mem_cell hSw 6; go_simp
  (try simp only [Act.put, List.getElem_toArray, List.getElem_cons_zero, List.getElem_cons_succ, List.setIfInBounds_toArray, List.set_cons_zero, List.set_cons_succ])
  refine wpAnyZ_ready (rs := [9]) (by kernel_rfl) (by simp) (AllReadyZ.cons rfl (fun K hK => ?_) AllReadyZ.nil)
  go_simp
  obtain ⟨v2, hv2⟩ : ∃ V : World, v1.alloc (.cells #[ptrV w.heap.size] 98) = V := ⟨_, rfl⟩
  rw [hv2]
  have hB2 : Below v1.heap.size v1 v2 := by rw [← hv2]; exact mem_alloc _ _
  have HLIT : Hid (∀ (j : Nat) (x : Value), [ptrV w.heap.size][j]? = some x → v2.cell? ((⟨v1.heap.size, 0, none⟩ : Addr).add j) = some x) := by
    show ∀ _ _, _
    rw [← hv2]
    intro k u hku
    match k, hku with
    | 0, hku => cases hku; exact World.cell?_alloc_new _ _ _ 0
  have HBV := Lib.hid (mem_then HD0.out hB2)
  clear hv2 hB2
  refine hK.out _ _ ((HC.out _ HBV.out).1) (fun hHeld => ?_)
  clear hK K
  rename_i hOld
  clear hOld
  (try simp only [Act.put, List.getElem_toArray, List.getElem_cons_zero, List.getElem_cons_succ, List.setIfInBounds_toArray, List.set_cons_zero, List.set_cons_succ])
  refine wpAnyZ_ready (rs := [10]) (by kernel_rfl) (by simp) (AllReadyZ.cons rfl (fun K hK => ?_) AllReadyZ.nil)
  refine step_append_row rfl (.tmp 12) (.tmp 17) 97 rfl B 98 i0 _ 1 8 Tryd.underlying97 hi0 hz0 hz1 hz2 rfl (by decide) (.slice ra n rc) n (G.map ptrV) (by simp [Act.eval]) (own_below HROW.out HBV.out) ⟨v1.heap.size, 0, none⟩ 1 1 [ptrV w.heap.size] (by simp [Act.eval]) rfl HLIT.out (by simp [Value.oneCell']) (by decide) (by unfold maxLen; omega) (by omega) (by have := HSZ.out.1; have := HBV.out.size; omega) ?_
  intro gb cap w2 hown2 hgrow2 hplace
  have keep9 : ∀ (k : Nat) o, W2.heap[k]? = some o → (Value.slice ra n rc).ownBlock ≠ some k → w2.heap[k]? = some o := fun k o hk ht => (hgrow2.block k (Nat.lt_of_lt_of_le (mem_lt hk) HBV.out.size) (fun e => ht e.symm)).trans (mem_keep hk HBV.out)
  have HK := Lib.hid (And.intro (keep9 _ _ (HC.out W2 (Below.refl _ _)).1 (own_other HROW.out (HC.out W2 (Below.refl _ _)).1 (by decide))) (keep9 _ _ (HC.out W2 (Below.refl _ _)).2 (own_other HROW.out (HC.out W2 (Below.refl _ _)).2 (by decide))))
  have HGR := Lib.hid hgrow2
  have HOWN := Lib.hid hown2
  clear hown2 hgrow2 hplace keep9
  refine hK.out _ _ (HK.out.1) (fun hHeld => ?_)
  clear hK K
  rename_i hOld
  clear hOld
  (try simp only [Act.put, List.getElem_toArray, List.getElem_cons_zero, List.getElem_cons_succ, List.setIfInBounds_toArray, List.set_cons_zero, List.set_cons_succ])
  refine wpAnyZ_ready (rs := [11]) (by kernel_rfl) (by simp) (AllReadyZ.cons rfl (fun K hK => ?_) AllReadyZ.nil)
  go_simp
  refine hK.out _ _ (HK.out.1) (fun hHeld => ?_)
  clear hK K
  rename_i hOld
  clear hOld
  (try simp only [Act.put, List.getElem_toArray, List.getElem_cons_zero, List.getElem_cons_succ, List.setIfInBounds_toArray, List.set_cons_zero, List.set_cons_succ])
  refine wpAnyZ_ready (rs := [12]) (by kernel_rfl) (by simp) (AllReadyZ.cons rfl (fun K hK => ?_) AllReadyZ.nil)
  go_simp
  refine hK.out _ _ (HK.out.1) (fun hHeld => ?_)
  clear hK K
  rename_i hOld
  clear hOld
  (try simp only [Act.put, List.getElem_toArray, List.getElem_cons_zero, List.getElem_cons_succ, List.setIfInBounds_toArray, List.set_cons_zero, List.set_cons_succ])
  have c0 : w2.cell? ⟨m.bb, 5, none⟩ = some (.slice ra n rc) := mem_cell HK.out.1 5
  have f0 := mem_free HK.out.1 5
  refine wpAnyZ_ready (rs := [13]) (by kernel_rfl) (by simp) (AllReadyZ.last rfl (by decide) (fun K hK => ?_) AllReadyZ.nil)
  go_simp
  refine hK.out _ _ ?_
  clear hK K
  (try simp only [Act.put, List.getElem_toArray, List.getElem_cons_zero, List.getElem_cons_succ, List.setIfInBounds_toArray, List.set_cons_zero, List.set_cons_succ])
  clear c0 f0 hHeld
  refine wpAnyZ_done (by kernel_rfl) ?_ _
  obtain ⟨WE, hWE⟩ : ∃ W : World, w2.setCell ⟨m.bb, 5, none⟩ (.slice (some ⟨gb, 0, none⟩) (n + 1) cap) = W := ⟨_, rfl⟩
  rw [hWE]
  have hfar : ∀ k, k ≠ m.bb → WE.heap[k]? = w2.heap[k]? := fun k hk => by rw [← hWE]; exact Below.heap_setCell _ _ _ _ hk
  have hbE : WE.heap[m.bb]? = some (bdObj m R d (.slice (some ⟨gb, 0, none⟩) (n + 1) cap) (ptrV w.heap.size)) := by rw [← hWE, mem_set HK.out.1]; rfl
  have hbl : m.bb < w.heap.size := H.out.lt.1
  have hgb : gb ≠ m.bb := by
    rintro rfl
    exact own_other HOWN.out HK.out.1 (by decide) rfl
  have HPUSH : Hid (BdAt B (N + 1) m E WE (G ++ [w.heap.size]) (bs ++ [opnB []]) R d V ∧ FrL B m w WE) := by
    refine H.out.push (rv := .slice ra n rc) (rv' := .slice (some ⟨gb, 0, none⟩) (n + 1) cap) HB0.out (by rw [HN.out]; exact HR0.out) (Nat.le_refl _) ?_ hbE ?_ ?_ ?_ (Nat.le_refl _) hN
    · rw [hfar _ (by omega)]; exact HK.out.2
    · rw [HN.out]
      exact own_keep HOWN.out (fun k hk _ => hfar k (by rintro rfl; cases hk; exact hgb rfl))
    · intro k hk hkb hko
      rw [hfar k hkb, HGR.out.block k (by have := HSZ.out.1; have := HBV.out.size; omega) (fun e => hko e.symm), HBV.out.block k (by have := HSZ.out.1; omega)]
      exact HOLD.out k hk hkb
    · have h1 : Below B w v2 := HB2.out.trans (HBV.out.mono (by have := HSZ.out.1; omega))
      rw [← hWE]
      exact (h1.grown HGR.out (by have := HSZ.out.1; have := HBV.out.size; omega) (fun k hk => (own_lt HROW.out hk).1)).setCell (p := ⟨m.bb, 5, none⟩) H.out.up.1 _
  have c5 : WE.cell? ⟨m.bb, 5, none⟩ = some (.slice (some ⟨gb, 0, none⟩) (n + 1) cap) := mem_cell hbE 5
  have hn1 : n ≤ 1000000 := by have := H.out.cap; omega
  clear hWE hfar hbE hgb hbl
  go_wp2_with fail
  go_ret
  exact ⟨by simp, _, HPUSH.out⟩
end
end Go.Proofs.YtkpdngfkdmllkaaDoor
