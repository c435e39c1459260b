/-
  Contracts: paths (slices of ints): slices.Clone, slices.Clip.
-/
import Derived.Test.YtnegdmhmhdojbaaDoorProg
import Derived.Test.YtnegdmhmhdojbaaDoorBases
import Derived.Lib.Hide
import Derived.Deep.RegionHeld
import Derived.WalkSpells
import Derived.Lib.SliceRun
import Derived.Outline
namespace Go.Proofs.YtnegdmhmhdojbaaDoor
set_option linter.unusedVariables false
set_option linter.unusedSimpArgs false
open Go.RowKit
set_option maxRecDepth 100000

/-- a slice of ints, not nil, in a block of a kind -/
def PathIn (S : Nat → Prop) (w : World) (v : Value) (p : List Int) : Prop :=
  ∃ b off cap, v = .slice (some ⟨b, off, none⟩) p.length cap ∧ S b ∧ p.length ≤ cap ∧ b < w.heap.size ∧ ∀ i, i < p.length → w.cell? ⟨b, off + i, none⟩ = some (.int .i64 (p.getD i 0))

theorem PathIn.move {S S' : Nat → Prop} {w w' : World} {v : Value} {p : List Int} (hsz : w.heap.size ≤ w'.heap.size) (h1 : ∀ k, S k → k < w.heap.size → w'.heap[k]? = w.heap[k]?) (h2 : ∀ k, S k → k < w.heap.size → S' k) (h : PathIn S w v p) : PathIn S' w' v p := by
  obtain ⟨b, off, cap, hv, hS, hc, hb, hk⟩ := h
  exact ⟨b, off, cap, hv, h2 b hS hb, hc, Nat.lt_of_lt_of_le hb hsz, fun i hi => (World.cell?_of_block (a := ⟨b, _, none⟩) (h1 b hS hb)).trans (hk i hi)⟩
theorem PathIn.below {S : Nat → Prop} {w w' : World} {v : Value} {p : List Int} (h : PathIn S w v p) (hb : Below w.heap.size w w') : PathIn S w' v p :=
  h.move hb.size (fun k _ hk => hb.block k hk) (fun _ h _ => h)

theorem Tryd.infoInt : (Tryd.prog.info? 3).map (fun i => (i.zero, i.size, i.bytes)) = some (some (.int .i64 0), 1, 8) := by kernel_rfl

/-- a path in new memory -/
def PathOf (p : List Int) (w : World) (e : Ending) (w' : World) : Prop := ∃ v, e = .returned v ∧ PathIn (fun k => w.heap.size ≤ k) w' v p ∧ Below w.heap.size w w'
def ints (p : List Int) : List Value := p.map (Value.int .i64)
theorem ints_at (p : List Int) (i : Nat) (h : i < p.length) : (ints p)[i]? = some (.int .i64 (p.getD i 0)) := by
  simp [ints, h]
theorem ints_one (p : List Int) : ∀ u ∈ ints p, u.oneCell' = true := by
  intro u hu; simp [ints] at hu; obtain ⟨n, _, rfl⟩ := hu; rfl
theorem ints_len (p : List Int) : (ints p).length = p.length := by simp [ints]

/-- what an owned row of ints is as a path -/
theorem pathIn_of_row {w : World} {base g cap n : Nat} {p : List Int} (h : w.ownsRow base 3 1 (.slice (some ⟨g, 0, none⟩) n cap) n (ints p)) (hn : n = p.length) : PathIn (fun k => base ≤ k) w (.slice (some ⟨g, 0, none⟩) n cap) p := by
  subst hn
  rcases ownsRow_form h with ⟨h0, _⟩ | ⟨g', cap', hv, hg, hl, hc⟩
  · cases h0
  · cases hv
    refine ⟨g, 0, cap, rfl, hg, hc, hl, fun i hi => ?_⟩
    rw [Nat.zero_add, h.cellAt i (by omega)]
    exact ints_at p i hi

set_option maxHeartbeats 1000000 in
theorem slicesClone_any {S : Nat → Prop} (p : List Int) (w : World) (v : Value) (hp : PathIn S w v p) (hl : p.length ≤ 1000000) :
    Calls Tryd.prog 63 #[v] w (PathOf p w) := by
  obtain ⟨b, off, cap, rfl, _, hcap, hb, hk⟩ := hp
  obtain ⟨i0, hi, hz0, hz1, hz2⟩ := info_parts Tryd.infoInt
  have HK := Lib.hid hk
  clear hk
  have hown : (w.alloc (.cells #[] 3)).ownsRow w.heap.size 3 1 (.slice (some ⟨w.heap.size, 0, none⟩) 0 0) 0 [] := World.ownsRow_made _ #[] 0 (Nat.le_refl _) (by unfold maxLen; omega) rfl
  have HOWN := Lib.hid hown
  clear hown
  have HC : Hid (∀ j u, (ints p)[j]? = some u → (w.alloc (.cells #[] 3)).cell? ((⟨b, off, none⟩ : Addr).add j) = some u) := by
    intro j u hu
    have hj : j < p.length := by have := (List.getElem?_eq_some_iff.1 hu).1; rwa [ints_len] at this
    rw [ints_at p j hj] at hu
    cases hu
    rw [show (⟨b, off, none⟩ : Addr).add j = ⟨b, off + j, none⟩ by simp [Addr.add]]
    exact (World.cell?_alloc_lt _ _ ⟨b, off + j, none⟩ hb).trans (HK.out j hj)
  have hB0 : Below w.heap.size w (w.alloc (.cells #[] 3)) := (Below.refl _ _).alloc (Nat.le_refl _) _
  have hnil := fun (w : World) (a : Option Addr) (n c : Nat) => Lib.run_eql_slice_nil (P := Tryd.prog) w 33 3 a n c 0 0 Tryd.underlying33
  by_cases h0 : p.length = 0
  · have HP : Hid (p = []) := List.length_eq_zero_iff.1 h0
    go_enter Tryd.func63, Tryd.ntmps63
    go_wp2_with (at_builtin; refine wpList_append_fits _ rfl _ _ 33 rfl w.heap.size 3 i0 1 Tryd.underlying33 hi hz1 w.heap.size 0 0 [] rfl HOWN.out ⟨b, off, none⟩ p.length cap (ints p) rfl (by rw [ints_len]; omega) HC.out (ints_one p) (by omega) ?_)
    intro w2 hown2 hgrow
    have hB2 : Below w.heap.size w w2 := hB0.grown hgrow (by simp) (fun k hk => by cases hk; exact Nat.le_refl _)
    have HO := Lib.hid hown2
    clear hown2 hgrow
    go_wp2_with fail
    go_ret
    exact ⟨_, rfl, pathIn_of_row (p := p) (by simpa using HO.out) (by omega), hB2⟩
  · go_enter Tryd.func63, Tryd.ntmps63
    go_wp2_with (at_builtin; refine wpList_append_row _ rfl _ _ 33 rfl w.heap.size 3 i0 _ 1 8 Tryd.underlying33 hi hz0 hz1 hz2 rfl (by decide) _ _ _ rfl HOWN.out ⟨b, off, none⟩ p.length cap (ints p) rfl (by rw [ints_len]; omega) HC.out (ints_one p) (by omega) (by unfold maxLen; omega) (by omega) (by simp) ?_)
    intro g cap2 w2 hown2 hgrow hplace
    have hB2 : Below w.heap.size w w2 := hB0.grown hgrow (by simp) (fun k hk => by cases hk; exact Nat.le_refl _)
    have HO := Lib.hid hown2
    clear hown2 hgrow hplace
    go_wp2_with fail
    go_ret
    exact ⟨_, rfl, pathIn_of_row (p := p) (by simpa using HO.out) (by omega), hB2⟩
theorem slicesClip_any (b off n cap : Nat) (w : World) (hc : n ≤ cap) :
    Calls Tryd.prog 74 #[.slice (some ⟨b, off, none⟩) n cap] w fun e w' => e = .returned (.slice (some ⟨b, off, none⟩) n n) ∧ w = w' := by
  go_enter Tryd.func74, Tryd.ntmps74
  go_wp2_with fail
  go_ret
  exact ⟨rfl, rfl⟩
end Go.Proofs.YtnegdmhmhdojbaaDoor
