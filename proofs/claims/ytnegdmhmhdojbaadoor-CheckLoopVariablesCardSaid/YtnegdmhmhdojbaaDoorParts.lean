/-
  Validity is hereditary: every node of a valid tree is of just one category. No program is named here.
-/
import Derived.Test.YtnegdmhmhdojbaaDoorAstForms
import Derived.Test.YtnegdmhmhdojbaaDoorPathRowsT
namespace Go.Proofs.YtnegdmhmhdojbaaDoor
set_option linter.unusedVariables false
set_option linter.unusedSimpArgs false

theorem vld_belongs {t : Tree} {c : Int} (h : t.vld c = true) : Fm.belongs t.kind c = true := by
  rw [t.vld_eq, Bool.and_eq_true] at h; exact h.1
/-- a place is an expression -/
theorem vld_place {t : Tree} (h : t.vld 112 = true) : t.vld 101 = true := by
  have hb := vld_belongs h
  rw [t.vld_eq, Bool.and_eq_true] at h ⊢
  refine ⟨?_, h.2⟩
  simp [Fm.belongs] at hb ⊢
  omega
/-- the three categories exclude each other -/
theorem vld_one {t : Tree} {c d : Int} (hc : c = 101 ∨ c = 115 ∨ c = 98) (hd : d = 101 ∨ d = 115 ∨ d = 98) (h : t.vld c = true) (hne : c ≠ d) : t.vld d = false := by
  cases h2 : t.vld d with
  | false => rfl
  | true =>
    exfalso
    have b1 := vld_belongs h
    have b2 := vld_belongs h2
    rcases hc with rfl | rfl | rfl <;> rcases hd with rfl | rfl | rfl <;> simp [Fm.belongs] at b1 b2 <;> omega
/-- a child of a valid tree is valid, of some category -/
theorem vld_kid {t : Tree} {c : Int} (h : t.vld c = true) {i : Nat} (hi : i < t.len) : ∃ d, (d = 101 ∨ d = 115 ∨ d = 98) ∧ (t.kid i).vld d = true := by
  rw [t.vld_eq, Bool.and_eq_true] at h
  have h2 := h.2
  by_cases h47 : t.kind = 47
  · rw [if_pos h47] at h2
    simp only [Bool.and_eq_true] at h2
    exact ⟨115, by simp, Tree.allTo_iff.1 h2.2 i hi⟩
  · rw [if_neg h47] at h2
    simp only [Bool.and_eq_true] at h2
    have hk := Tree.allTo_iff.1 h2.2 i hi
    have hlen : t.len = (Fm.kids t.kind).length := of_decide_eq_true h2.1.1.2
    rcases Fm.kids_cat t.kind i (by omega) with h | h | h | h <;> rw [h] at hk
    · exact ⟨101, by simp, hk⟩
    · exact ⟨101, by simp, vld_place hk⟩
    · exact ⟨115, by simp, hk⟩
    · exact ⟨98, by simp, hk⟩
theorem vld_items : ∀ (t : Tree) (c : Int), (c = 101 ∨ c = 115 ∨ c = 98) → t.vld c = true → ∀ x ∈ t.items [], ∃ d, (d = 101 ∨ d = 115 ∨ d = 98) ∧ x.2.vld d = true := by
  intro t
  induction t using Tree.ind with
  | h t ih =>
    intro c hc h x hx
    rw [its_eq, List.mem_cons, mem_concatTo] at hx
    rcases hx with rfl | ⟨i, hi, hx⟩
    · exact ⟨c, hc, h⟩
    · rw [List.mem_map] at hx
      obtain ⟨y, hy, rfl⟩ := hx
      obtain ⟨d, hd, hv⟩ := vld_kid h hi
      exact ih i hi d hd hv y hy
/-- of a valid tree every node is of just one category -/
theorem one_kind {t : Tree} (h : t.vld 98 = true) {x : List Int × Tree} (hx : x ∈ t.items []) :
    (x.2.vld 101 = true ∧ x.2.vld 115 = false ∧ x.2.vld 98 = false) ∨ (x.2.vld 101 = false ∧ x.2.vld 115 = true ∧ x.2.vld 98 = false) ∨ (x.2.vld 101 = false ∧ x.2.vld 115 = false ∧ x.2.vld 98 = true) := by
  obtain ⟨d, hd, hv⟩ := vld_items t 98 (by simp) h x hx
  rcases hd with rfl | rfl | rfl
  · exact .inl ⟨hv, vld_one (by simp) (by simp) hv (by decide), vld_one (by simp) (by simp) hv (by decide)⟩
  · exact .inr (.inl ⟨vld_one (by simp) (by simp) hv (by decide), hv, vld_one (by simp) (by simp) hv (by decide)⟩)
  · exact .inr (.inr ⟨vld_one (by simp) (by simp) hv (by decide), vld_one (by simp) (by simp) hv (by decide), hv⟩)
/-- the statements of a valid block -/
theorem block_kids {t : Tree} (h : t.vld 98 = true) {i : Nat} (hi : i < t.len) : (t.kid i).vld 115 = true := by
  have hb := vld_belongs h
  have hk : t.kind = 47 := by simpa [Fm.belongs] using hb
  rw [Tree.vld_eq, if_pos hk] at h
  simp only [Bool.and_eq_true] at h
  exact Tree.allTo_iff.1 h.2.2 i hi
/-- a block out of valid statements -/
theorem block_vld {n : Nat} {f : Nat → Tree} (h : ∀ i, i < n → (f i).vld 115 = true) : (Tree.make 47 0 ⟨#[]⟩ n f).vld 98 = true := by
  rw [Tree.vld_eq]
  have h1 : (Tree.make 47 0 ⟨#[]⟩ n f).kind = 47 := rfl
  have h2 : (Tree.make 47 0 ⟨#[]⟩ n f).num = 0 := rfl
  have h3 : (Tree.make 47 0 ⟨#[]⟩ n f).name = ⟨#[]⟩ := rfl
  have h4 : (Tree.make 47 0 ⟨#[]⟩ n f).len = n := rfl
  rw [h1, h2, h3, h4, if_pos rfl]
  have h5 : Tree.allTo (fun i => ((Tree.make 47 0 ⟨#[]⟩ n f).kid i).vld 115) n = true := Tree.allTo_iff.2 fun i hi => by rw [Tree.make_kid hi]; exact h i hi
  rw [h5]
  have h6 : (⟨#[]⟩ : ByteArray).toList.isEmpty = true := by rw [ByteArray.toList_eq]; rfl
  rw [h6]
  decide
/-- a block with a block among its statements is none -/
theorem block_not {n : Nat} {f : Nat → Tree} {i : Nat} (hi : i < n) (h : (f i).vld 98 = true) : (Tree.make 47 0 ⟨#[]⟩ n f).vld 98 = false := by
  rw [Tree.vld_eq]
  have h1 : (Tree.make 47 0 ⟨#[]⟩ n f).kind = 47 := rfl
  have h4 : (Tree.make 47 0 ⟨#[]⟩ n f).len = n := rfl
  rw [h1, h4, if_pos rfl]
  have h5 : Tree.allTo (fun i => ((Tree.make 47 0 ⟨#[]⟩ n f).kid i).vld 115) n = false := Tree.allTo_false hi (by rw [Tree.make_kid hi]; exact vld_one (by simp) (by simp) h (by decide))
  rw [h5]
  simp
end Go.Proofs.YtnegdmhmhdojbaaDoor
