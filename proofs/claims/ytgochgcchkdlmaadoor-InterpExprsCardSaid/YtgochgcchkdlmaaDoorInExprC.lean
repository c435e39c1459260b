/-
  Contracts: Expr$1 and Expr (package interp): the value of an expression, or its error.
-/
import Derived.Test.YtgochgcchkdlmaaDoorInStmts
import Derived.Test.YtgochgcchkdlmaaDoorAstIsValids
import Derived.Test.YtgochgcchkdlmaaDoorRef16E
import Derived.Laws.EntriesVeiled
namespace Go.Proofs.YtgochgcchkdlmaaDoor
set_option linter.unusedVariables false
set_option linter.unusedSimpArgs false
open Go.RowKit Go.Maps
set_option maxRecDepth 100000
set_option maxHeartbeats 80000000

theorem expr1_any (sb vb ab nv na : Nat) (G : ByteArray → Option Value) (V : VF) (A : AF) (t : Tree) (hv : t.vld 101 = true) (w : World) (a : Option Addr) (c : Nat) (pb kb xb : Nat) (hr : Rep w t a) (hrd : RdAt w sb vb ab nv na G V A)
    (hp : w.heap[pb]? = some (.cells #[.pointer (some ⟨sb, 0, none⟩)] 84)) (hk : w.heap[kb]? = some (ndObj t a c)) (hx : w.heap[xb]? = some (.cells #[.int .i32 0] 21)) :
    Calls Tryd.prog 47 #[.pointer (some ⟨pb, 0, none⟩), .pointer (some ⟨kb, 0, none⟩), .pointer (some ⟨xb, 0, none⟩)] w fun e w' =>
      (∀ x, t.ev V A = .ok x → e = .returned (.tuple #[]) ∧ w'.heap[xb]? = some (.cells #[.int .i32 x] 21)) ∧ (∀ k, t.ev V A = .er k → e = .panicked (failC k)) ∧ (∀ k, k ≠ xb → k < w.heap.size → w'.heap[k]? = w.heap[k]?) ∧ Below xb w w' := by
  have p0 := mem_cell hp 0
  simp only [List.getElem?_toArray, List.getElem?_cons_zero] at p0
  obtain ⟨g0, g1, g2, g3⟩ := nd_cells hk
  have H := Lib.hid (expr_any sb vb ab nv na G V A t hv w a c hr hrd)
  have HX := Lib.hid hx
  have hxl := mem_lt hx
  clear hr hrd hp hk hx hv
  obtain ⟨v, hv⟩ : ∃ v, t.ev V A = v := ⟨_, rfl⟩
  rw [hv] at H ⊢
  clear hv
  go_enter Tryd.func47, Tryd.ntmps47
  go_wp2_with fail
  refine H.out.mono ?_
  rintro e w2 ⟨he, hB⟩
  have HB := Lib.hid hB
  clear hB H
  cases v with
  | er k =>
    have he : e = .panicked (failC k) := he
    subst he
    exact panic_end (P := Tryd.prog) (fn := Tryd.f47) rfl ⟨fun x h => (by cases h), fun k h => (by cases h; rfl), fun k hk hl => HB.out.block k hl, HB.out.mono (by omega)⟩
  | ok x =>
    have he : e = .returned (.int .i32 x) ∧ Wd.W x := he
    obtain ⟨rfl, _⟩ := he
    have hx2 := mem_keep HX.out HB.out
    have c0 := mem_cell hx2 0
    have f0 := mem_free hx2 0
    simp only [List.getElem?_toArray, List.getElem?_cons_zero] at c0
    obtain ⟨F, hF⟩ : ∃ F : World, w2.setCell ⟨xb, 0, none⟩ (.int .i32 x) = F := ⟨_, rfl⟩
    have HF : Hid (F.heap[xb]? = some (.cells #[.int .i32 x] 21)) := by show _ = _; rw [← hF, mem_set hx2]; rfl
    have HFAR : Hid (∀ k, k ≠ xb → k < w.heap.size → F.heap[k]? = w.heap[k]?) := fun k hk hl => by rw [← hF, Below.heap_setCell _ _ _ _ hk]; exact HB.out.block k hl
    have HBF : Hid (Below xb w F) := by show Below _ _ _; rw [← hF]; exact (HB.out.mono (show xb ≤ w.heap.size by omega)).setCell (p := ⟨xb, 0, none⟩) (Nat.le_refl _) _
    clear hx2
    go_wp2_with fail
    go_end0
    exact ⟨fun y h => (by cases h; exact ⟨rfl, HF.out⟩), fun k h => (by cases h), HFAR.out, HBF.out⟩
theorem exprI_any (vb ab nv na : Nat) (G : ByteArray → Option Value) (V : VF) (A : AF) (t : Tree) (w : World) (a : Option Addr) (c : Nat) (hr : Rep w t a) (hg : SignsIn w) (hV : FMap Tryd.prog StrK w vb nv (intV V)) (hA : FMap Tryd.prog StrK w ab na G) (hR : RowsR w G A) (fV : ∀ nm v, V nm = some v → Wd.W v) (fA : ∀ nm l, A nm = some l → ∀ x ∈ l, Wd.W x) :
    Calls Tryd.prog 28 #[t.val a c, .map (some vb), .map (some ab)] w fun e w' => ∃ x k, e = .returned (.tuple #[.int .i32 x, .int .i64 k]) ∧ (t.vld 101 = false → x = 0 ∧ k = 3) ∧ (t.vld 101 = true → k = evK (t.ev V A) ∧ (k ≠ 0 → x = 0) ∧ ∀ y, t.ev V A = .ok y → x = y) ∧ Below w.heap.size w w' := by
  obtain ⟨W1, hW1⟩ : ∃ W : World, w.alloc (ndObj t a c) = W := ⟨_, rfl⟩
  have hB1 : Below w.heap.size w W1 := by rw [← hW1]; exact mem_alloc _ _
  have hX1 : W1.heap[w.heap.size]? = some (ndObj t a c) := by rw [← hW1]; exact mem_new _ _
  have HK : Hid (∀ w', Below W1.heap.size W1 w' → w'.heap[w.heap.size]? = some (ndObj t a c) ∧ Rep w' t a ∧ SignsIn w' ∧ FMap Tryd.prog StrK w' vb nv (intV V) ∧ FMap Tryd.prog StrK w' ab na G ∧ RowsR w' G A ∧ Below w.heap.size w w') := fun w' h => by
    have hb := mem_then hB1 h
    exact ⟨mem_keep hX1 h, hr.below hb, hg.below hb, hV.below hb, hA.below hb, hR.below hb, hb⟩
  obtain ⟨x0, x1, x2, x3⟩ := nd_cells hX1
  have HIS := Lib.hid (isExpr_any t W1 a c (hr.below hB1) (hg.below hB1))
  have HFV := Lib.hid fV
  have HFA := Lib.hid fA
  clear hr hg hV hA hR hB1 hX1 fV fA
  obtain ⟨v, hv⟩ : ∃ v, t.ev V A = v := ⟨_, rfl⟩
  rw [hv]
  have HVN : Hid (∀ k, v = .er k → k ≠ 0) := fun k h => ev_ne0 _ _ _ k (hv.trans h)
  have HVQ := Lib.hid hv
  clear hv
  go_enter Tryd.func28, Tryd.ntmps28
  go_wp2_with fail
  clear hW1 x0 x1 x2 x3
  refine HIS.out.mono ?_
  rintro e w2 ⟨rfl, hB2⟩
  have HB2 := Lib.hid hB2
  clear HIS hB2
  cases hvl : t.vld 101 with
  | false =>
    go_wp2_with fail
    go_ret2
    exact ⟨0, 3, rfl, fun _ => ⟨rfl, rfl⟩, fun h => (by rw [hvl] at h; cases h), (HK.out w2 HB2.out).2.2.2.2.2.2⟩
  | true =>
  obtain ⟨W3, hW3⟩ : ∃ W : World, w2.alloc (.cells #[.map (some vb), .map (some ab), .slice none 0 0, .int .i64 0, .slice none 0 0, .int .i64 0, .int .i64 0] 86) = W := ⟨_, rfl⟩
  obtain ⟨W4, hW4⟩ : ∃ W : World, W3.alloc (.cells #[.pointer (some ⟨w2.heap.size, 0, none⟩)] 84) = W := ⟨_, rfl⟩
  obtain ⟨W5, hW5⟩ : ∃ W : World, W4.alloc (.cells #[.int .i32 0] 21) = W := ⟨_, rfl⟩
  have b3 : Below w2.heap.size w2 W3 := by rw [← hW3]; exact mem_alloc _ _
  have b4 : Below W3.heap.size W3 W4 := by rw [← hW4]; exact mem_alloc _ _
  have b5 : Below W4.heap.size W4 W5 := by rw [← hW5]; exact mem_alloc _ _
  have hx3 : W5.heap[w2.heap.size]? = some (.cells #[.map (some vb), .map (some ab), .slice none 0 0, .int .i64 0, .slice none 0 0, .int .i64 0, .int .i64 0] 86) := mem_keep (by rw [← hW3]; exact mem_new _ _) (mem_then b4 b5)
  have hx4 : W5.heap[W3.heap.size]? = some (.cells #[.pointer (some ⟨w2.heap.size, 0, none⟩)] 84) := mem_keep (by rw [← hW4]; exact mem_new _ _) b5
  have hx5 : W5.heap[W4.heap.size]? = some (.cells #[.int .i32 0] 21) := by rw [← hW5]; exact mem_new _ _
  have hB5 : Below W1.heap.size W1 W5 := mem_then HB2.out (mem_then (mem_then b3 b4) b5)
  obtain ⟨WE, hWE⟩ : ∃ W : World, W5.alloc (.cells #[.int .i64 0] 35) = W := ⟨_, rfl⟩
  have bE : Below W5.heap.size W5 WE := by rw [← hWE]; exact mem_alloc _ _
  have hxE : WE.heap[W5.heap.size]? = some (.cells #[.int .i64 0] 35) := by rw [← hWE]; exact mem_new _ _
  obtain ⟨k1, k2, _, k4, k5, k6, _⟩ := HK.out WE (mem_then hB5 bE)
  have hrd : RdAt WE w2.heap.size vb ab nv na G V A := ⟨mem_cell (mem_keep hx3 bE) 0, mem_cell (mem_keep hx3 bE) 1, k4, k5, k6, HFV.out, HFA.out⟩
  have h1 := expr1_any w2.heap.size vb ab nv na G V A t hvl WE a c W3.heap.size w.heap.size W4.heap.size k2 hrd (mem_keep hx4 bE) k1 (mem_keep hx5 bE)
  rw [HVQ.out] at h1
  have hl5 := mem_lt hx5
  have HL5 : Hid (W1.heap.size ≤ W4.heap.size) := by have h1 := HB2.out.size; have h2 := b3.size; have h3 := b4.size; show _ ≤ _; omega
  have hgd := guard_any 47 #[.pointer (some ⟨W3.heap.size, 0, none⟩), .pointer (some ⟨w.heap.size, 0, none⟩), .pointer (some ⟨W4.heap.size, 0, none⟩)] (fun _ _ => rfl) ((⟨fun _ => none, fun _ => none, [], 0, 0⟩ : St), evK v) W5 (fun w' => Below W1.heap.size W1 w' ∧ W4.heap.size < w'.heap.size ∧ ∀ x, v = .ok x → w'.heap[W4.heap.size]? = some (.cells #[.int .i32 x] 21)) (by
    rw [hWE]
    refine h1.mono ?_
    rintro e w' ⟨g1, g2, g3, g4⟩
    have hb := (mem_then hB5 bE).trans (g4.mono HL5.out)
    have hsz : W4.heap.size < w'.heap.size := by have := g4.size; have := bE.size; omega
    refine ⟨?_, ?_, hb, hsz, fun x hx => (g1 x hx).2⟩
    · cases v with
      | ok x => rw [(g1 x rfl).1]; exact srE_ok
      | er k => rw [g2 k rfl]; exact srE_er (HVN.out k rfl)
    · exact (g3 W5.heap.size (by omega) (mem_lt hxE)).trans hxE)
  have HGD := Lib.hid hgd
  have HL54 : Hid (W4.heap.size < W5.heap.size) := hl5
  clear b3 b4 b5 hx3 hx4 hx5 hB5 hWE bE hxE k1 k2 k4 k5 k6 hrd h1 hgd hl5
  go_wp2_with fail
  refine HGD.out.mono ?_
  rintro e we ⟨rfl, w9, ⟨hb9, hsz9, hx9⟩, _, hke, hBe⟩
  have HBF : Hid (Below w.heap.size w we) := by
    have h := (HK.out w9 hb9).2.2.2.2.2.2
    exact h.trans (hBe.mono (by have := HL54.out; have := HL5.out; have := h.size; have h2 := (HK.out W1 (Below.refl _ _)).2.2.2.2.2.2.size; omega))
  clear HGD hW3 hW4 hW5
  cases v with
  | er k =>
    have hne := HVN.out k rfl
    have hb1 : (k != 0) = true := by simpa using hne
    have hb3 : evK (.er k) = k := rfl
    clear hx9 hke hBe hb9
    go_wp2_with fail
    go_ret2
    exact ⟨0, k, rfl, fun h => (by rw [hvl] at h; cases h), fun _ => ⟨rfl, fun _ => rfl, fun y h => (by cases h)⟩, HBF.out⟩
  | ok x =>
    have hb3 : evK (.ok x) = 0 := rfl
    have hx := (hke W4.heap.size hsz9 (by have := HL54.out; omega)).trans (hx9 x rfl)
    have c0 := mem_cell hx 0
    simp only [List.getElem?_toArray, List.getElem?_cons_zero] at c0
    clear hx9 hke hBe hb9 hx
    go_wp2_with fail
    go_ret2
    exact ⟨x, 0, rfl, fun h => (by rw [hvl] at h; cases h), fun _ => ⟨rfl, fun h => absurd rfl h, fun y h => (by cases h; rfl)⟩, HBF.out⟩
end Go.Proofs.YtgochgcchkdlmaaDoor
