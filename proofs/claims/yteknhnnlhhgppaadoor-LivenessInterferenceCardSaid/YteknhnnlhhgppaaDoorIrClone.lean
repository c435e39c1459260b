/-
  Contract: slices.Clone of words.
-/
import Derived.Test.YteknhnnlhhgppaaDoorMg5
import Derived.Test.YteknhnnlhhgppaaDoorMg4
import Derived.Test.YteknhnnlhhgppaaDoorMg8
import Derived.OwnWalk
import Derived.Lib.SliceRun
namespace Go.Proofs.YteknhnnlhhgppaaDoor
set_option linter.unusedVariables false
set_option linter.unusedSimpArgs false
open Go.RowKit
set_option maxRecDepth 100000
set_option maxHeartbeats 4000000

theorem Tryd.infoI32 : (Tryd.prog.info? 21).map (fun i => (i.zero, i.size, i.bytes)) = some (some (.int .i32 0), 1, 4) := by kernel_rfl
theorem w32_one (l : List Int) : ∀ u ∈ w32 l, u.oneCell' = true := by
  intro u hu
  simp [w32] at hu
  obtain ⟨x, _, rfl⟩ := hu
  rfl
theorem w32_at {w : World} {b off : Nat} {l : List Int} (h : ∀ (k : Nat) (x : Int), l[k]? = some x → w.cell? ⟨b, off + k, none⟩ = some (.int .i32 x)) : ∀ (j : Nat) (u : Value), (w32 l)[j]? = some u → w.cell? ((⟨b, off, none⟩ : Addr).add j) = some u := by
  intro j u hu
  simp [w32] at hu
  obtain ⟨x, hx, rfl⟩ := hu
  have e : (⟨b, off, none⟩ : Addr).add j = ⟨b, off + j, none⟩ := by
    unfold Addr.add
    by_cases h0 : j = 0 <;> simp [h0]
  rw [e]
  exact h j x hx
/-- a row in new memory -/
def RowNew (l : List Int) (w : World) (e : Ending) (w' : World) : Prop := ∃ v, e = .returned v ∧ w'.ownsRow w.heap.size 21 1 v l.length (w32 l) ∧ Below w.heap.size w w'
theorem wclone_any (l : List Int) (a : Option Addr) (c : Nat) (w : World) (h : WordsAt w a l) (h0 : a = none → c = 0) (hl : l.length * 4 ≤ 140737488351232) :
    Calls Tryd.prog 90 #[.slice a l.length c] w (RowNew l w) := by
  have HA := Lib.hid h.at_
  clear h
  have hnil' := fun (w : World) (a : Option Addr) (n c : Nat) => Lib.run_eql_slice_nil (P := Tryd.prog) w 66 21 a n c 0 0 Tryd.underlying66
  cases a with
  | none =>
    obtain rfl : c = 0 := h0 rfl
    have hl0 : l.length = 0 := by
      rcases HA.out with h1 | ⟨b, off, hb, _⟩
      · exact h1
      · cases hb
    have hnil : l = [] := List.length_eq_zero_iff.1 hl0
    subst hnil
    simp only [List.length_nil]
    go_enter Tryd.func90, Tryd.ntmps90
    go_wp2_with fail
    go_ret
    exact ⟨_, rfl, ⟨rfl, .inl ⟨rfl, rfl⟩⟩, Below.refl _ _⟩
  | some ad =>
    obtain ⟨i0, hi, hz0, hz1, hz2⟩ := info_parts Tryd.infoI32
    have HOWN : Hid ((w.alloc (.cells #[] 21)).ownsRow w.heap.size 21 1 (.slice (some ⟨w.heap.size, 0, none⟩) 0 0) 0 []) :=
      World.ownsRow_made _ #[] 0 (Nat.le_refl _) (by unfold maxLen; omega) rfl
    have HB0 : Hid (Below w.heap.size w (w.alloc (.cells #[] 21))) := (Below.refl _ _).alloc (Nat.le_refl _) _
    by_cases hl0 : l.length = 0
    · have hnil : l = [] := List.length_eq_zero_iff.1 hl0
      subst hnil
      simp only [List.length_nil]
      go_enter Tryd.func90, Tryd.ntmps90
      go_wp2_with (at_builtin; refine wpList_append_fits _ rfl _ _ 66 rfl w.heap.size 21 i0 1 Tryd.underlying66 hi hz1 w.heap.size 0 0 [] rfl HOWN.out ad 0 c [] rfl rfl (fun j u hu => by cases hu) (by simp) (by omega) ?_)
      intro w2 hown2 hgrow
      have HO2 := Lib.hid hown2
      have HB2 := Lib.hid (HB0.out.grown hgrow (by simp) (fun k hk => by cases hk; exact Nat.le_refl _))
      clear hown2 hgrow
      go_wp2_with fail
      go_ret
      exact ⟨_, rfl, HO2.out, HB2.out⟩
    · have hpos : 0 < l.length := by omega
      obtain ⟨ab, ao, rfl, hc1⟩ : ∃ ab ao, ad = ⟨ab, ao, none⟩ ∧ ∀ (k : Nat) (x : Int), l[k]? = some x → w.cell? ⟨ab, ao + k, none⟩ = some (.int .i32 x) := by
        rcases HA.out with h1 | ⟨b, off, hb, hc⟩
        · omega
        · cases hb; exact ⟨b, off, rfl, hc⟩
      have HC : Hid (∀ (j : Nat) (u : Value), (w32 l)[j]? = some u → (w.alloc (.cells #[] 21)).cell? ((⟨ab, ao, none⟩ : Addr).add j) = some u) := w32_at (fun k x hx => cell_below HB0.out (hc1 k x hx))
      clear hc1
      go_enter Tryd.func90, Tryd.ntmps90
      go_wp2_with (at_builtin; refine wpList_append_row _ rfl _ _ 66 rfl w.heap.size 21 i0 _ 1 4 Tryd.underlying66 hi hz0 hz1 hz2 rfl (by decide) _ 0 [] rfl HOWN.out ⟨ab, ao, none⟩ l.length c (w32 l) rfl (by simp [w32]) HC.out (w32_one l) hpos (by unfold maxLen; omega) (by omega) (by simp) ?_)
      intro gb cap w2 hown2 hgrow hp
      have HO2 := Lib.hid hown2
      have HB2 := Lib.hid (HB0.out.grown hgrow (by simp) (fun k hk => by cases hk; exact Nat.le_refl _))
      clear hown2 hgrow hp
      go_wp2_with fail
      go_ret
      exact ⟨_, rfl, HO2.out, HB2.out⟩
end Go.Proofs.YteknhnnlhhgppaaDoor
